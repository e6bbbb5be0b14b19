/-
  append, told more finely: the elements that were there stay where they were.
  Marks: has, add.
  collect.Frames: the handles in frames.
  A range over a function whose iterator makes its list first; a law of its own, and the iterator of collect.refs.
  The iterator of collect.refs.
  Marks: the weak pass.
  The reference of layer 35: Has, add.
  A slice of one's own that lies in a temporary (not behind a place): its elements, and how they are replaced.
  The reference of layer 35: its objects in memory; Live.
-/
import Derived.Test.YthiiehanlconeaaDoorPCollectRingsb
import Derived.Laws.IdiomCopy
import Derived.RangeFuncNested
import Derived.RangeFuncBound
import Derived.RangeFuncCalls
import Derived.RangeFuncLeaves
import Derived.OwnWalkIn
import Derived.TacticsInMore
import Derived.LoopNIn
import Derived.LoopIn
import Derived.Test.YthiiehanlconeaaDoorPCollectRingsa
namespace Go.Proofs.YthiiehanlconeaaDoor
open Go.RowKit
set_option linter.unusedVariables false

theorem run_append_row2 {P : Program} (w : World) (t tx ty e : TypeId) (i : TypeInfo) (z : Value) (size bytes : Nat) (ht : P.underlying t = some (.slice e)) (hi : P.info? e = some i) (hz : i.zero = some z)
    (hsize : i.size = size) (hby : i.bytes = bytes) (hzs : z.cells.size = size) (hsz : 0 < size)
    (v : Value) (n : Nat) (xs : List Value) (hown : RowAt w e size v n xs) (x : Value) (m : Nat) (news : List Value) (hs : Src P size tx x m news w)
    (h63 : n + m ≤ maxLen) (hbytes : (n + m) * bytes ≤ 140737488355328) :
    ∃ v' w', (Builtin.append_ #[t, tx] ty #[v, x]).run P w = .ok v' w' ∧ RowAt w' e size v' (n + m) (xs ++ news) ∧ Chg (fun k => v.ownBlock = some k) w w' ∧
      (∀ k, v'.ownBlock = some k → v.ownBlock = some k ∨ w.heap.size ≤ k) ∧ (∀ g off c, v = .slice (some ⟨g, off, none⟩) n c → (∀ j u, j < n * size → w.cell? ⟨g, off + j, none⟩ = some u → w'.cell? ⟨g, off + j, none⟩ = some u) ∧ ((∃ c', v' = .slice (some ⟨g, off, none⟩) (n + m) c') ∨ Chg (fun _ => False) w w' ∧ ∀ k, v'.ownBlock = some k → w.heap.size ≤ k)) := by
  subst hsize
  subst hby
  have hlen : (xs ++ news).length = (n + m) * i.size := by rw [List.length_append, hown.1, hs.newsLen, Nat.add_mul]
  have grow : ∀ (base : Option Addr) (cap : Nat), v = .slice base n cap → cap < n + m → (Builtin.firstCells i.size n (.slice base n cap)).run P w.drew = .ok xs.toArray w.drew →
      ∃ v' w', (Builtin.append_ #[t, tx] ty #[v, x]).run P w = .ok v' w' ∧ RowAt w' e i.size v' (n + m) (xs ++ news) ∧ Chg (fun k => v.ownBlock = some k) w w' ∧
      (∀ k, v'.ownBlock = some k → v.ownBlock = some k ∨ w.heap.size ≤ k) ∧ (∀ g off c, v = .slice (some ⟨g, off, none⟩) n c → (∀ j u, j < n * i.size → w.cell? ⟨g, off + j, none⟩ = some u → w'.cell? ⟨g, off + j, none⟩ = some u) ∧ ((∃ c', v' = .slice (some ⟨g, off, none⟩) (n + m) c') ∨ Chg (fun _ => False) w w' ∧ ∀ k, v'.ownBlock = some k → w.heap.size ≤ k)) := by
    intro base cap hv hcap hold
    have hr := run_append_grow_src (P := P) w t tx ty e i z ht hi hz base n cap xs hold x m news hs hcap (by simp only [maxLen] at h63; omega) (growslice_fits hcap hbytes)
    have hge := grownCap_ge w (n + m) cap e
    have hcm : grownCap w (n + m) cap e ≤ maxLen := grownCap_le_maxLen w (n + m) cap e h63
    refine ⟨_, _, by rw [hv]; exact hr, ⟨hlen, .inr ⟨w.heap.size, 0, _, _, rfl, heap_alloc_new w.drew _, hge, hcm, ?_, ?_⟩⟩, ?_, ?_, ?_⟩
    · simp only [Array.size_append, List.size_toArray, size_zeroCells, hzs, hlen, ← Nat.add_mul]
      rw [show n + m + (grownCap w (n + m) cap e - (n + m)) = grownCap w (n + m) cap e from by omega]
      omega
    · simp only [Array.toList_append, List.drop_zero]
      rw [← hlen]
      exact List.take_left
    · exact ((Chg.refl _ w).drewR).allocR _
    · intro k hk
      simp only [Value.ownBlock, Option.some.injEq] at hk
      exact .inr (by omega)
    · intro g off c _
      refine ⟨fun j u _ hu => Chg.cell (((Chg.refl _ w).drewR).allocR _) hu, .inr ⟨((Chg.refl _ w).drewR).allocR _, fun k hk => ?_⟩⟩
      simp only [Value.ownBlock, Option.some.injEq] at hk
      omega
  rcases hown.2 with ⟨rfl, rfl⟩ | ⟨g, off, cap, cur, rfl, hg, hnc, hcm, hcs, htake⟩
  · have hx : xs = [] := List.eq_nil_of_length_eq_zero (by simpa using hown.1)
    subst hx
    by_cases hm : m = 0
    · subst hm
      have hn : news = [] := List.eq_nil_of_length_eq_zero (by simpa using hs.newsLen)
      subst hn
      refine ⟨.slice none 0 0, w, ?_, RowAt.nil w e i.size, .refl _ _, fun k hk => .inl hk, fun g off c e => by cases e⟩
      have hc := hs.cells
      rcases hs.kind with ⟨e', hk⟩ | hk <;> simp [Builtin.append_, run_underlying ht, run_underlying hk, sizeOf, typeInfo, hi, hs.len, hc]
    · exact grow none 0 rfl (by omega) (run_firstCells_none w.drew i.size 0 0 0)
  · by_cases hroom : n + m ≤ cap
    · have hmul : n * i.size + m * i.size ≤ cap * i.size := by rw [← Nat.add_mul]; exact Nat.mul_le_mul_right _ hroom
      have hfit : off + n * i.size + news.length ≤ cur.size := by rw [hs.newsLen]; omega
      have hr := run_append_room_src (P := P) w t tx ty e i ht hi g off n cap x m news hs hroom
        (fun j hj => by rw [cell_of_block hg (Array.getElem?_eq_getElem (by omega))]; rfl) (fun j _ => frozen_of_block hg)
      refine ⟨_, _, hr, ⟨hlen, .inr ⟨g, off, cap, _, rfl, setCells_block news _ hg, hroom, hcm, ?_, ?_⟩⟩, ?_, fun k hk => .inl hk, ?_⟩
      · rw [putAt_size]; exact hcs
      · rw [putAt_toList _ _ _ hfit, List.append_assoc, List.drop_append_of_le_length (by simp; omega)]
        rw [← List.append_assoc, List.drop_take, show off + n * i.size - off = n * i.size from by omega, htake, ← hlen]
        exact List.take_left
      · exact (Chg.setCells news w _).mono (fun k _ hk => by simp only [Value.ownBlock, hk])
      · intro g2 off2 c2 e2
        cases e2
        refine ⟨fun j u hj hu => ?_, .inl ⟨_, rfl⟩⟩
        rw [World.cell?_setCells_out g news _ w _ (fun _ _ => .inl (by show off + j < off + n * i.size; omega))]
        exact hu
    · refine grow (some ⟨g, off, none⟩) cap rfl (by omega) ?_
      refine run_firstCells_some w.drew i.size n ⟨g, off, none⟩ n cap xs hown.1 ?_
      intro j u hu
      have := hown.cells rfl j u hu
      simpa using this

/-- One element appended, the old ones kept. -/
theorem list_append_elem2 {P : Program} {W : World} {ops : Array Oper} {rest : List Oper} {o : Oper} {a : Act} {Q : Exit → Act → World → Prop} (hgd : o.guard = none) (s x : Operand) (t : TypeId)
    (ho : o.op = .call { callee := .builtin .append, args := #[s, x], argTypes := #[t, t] })
    (e : TypeId) (size bytes : Nat) (ht : P.underlying t = some (.slice e)) (hE : Elem P e size bytes) (hsz : 0 < size)
    (v : Value) (n : Nat) (xs : List Value) (hsv : a.eval s = v) (hown : RowAt W e size v n xs) (news : List Value) (hnl : news.length = size) (g T : Nat) (f : Nat × Nat)
    (hx : a.eval x = .slice (some ⟨g, 0, none⟩) 1 1) (hg : W.heap[g]? = some (.cells news.toArray T f)) (h1 : ∀ u ∈ news, u.oneCell' = true)
    (h63 : n + 1 ≤ maxLen) (hbytes : (n + 1) * bytes ≤ 140737488355328)
    (h : ∀ a1 n1 c1 w', RowAt w' e size (.slice a1 n1 c1) (n + 1) (xs ++ news) → Chg (fun k => v.ownBlock = some k) W w' → (∀ k, (Value.slice a1 n1 c1).ownBlock = some k → v.ownBlock = some k ∨ W.heap.size ≤ k) →
      (∀ g off c, v = .slice (some ⟨g, off, none⟩) n c → (∀ j u, j < n * size → W.cell? ⟨g, off + j, none⟩ = some u → w'.cell? ⟨g, off + j, none⟩ = some u) ∧ ((∃ c', .slice a1 n1 c1 = Value.slice (some ⟨g, off, none⟩) (n + 1) c') ∨ Chg (fun _ => False) W w' ∧ ∀ k, (Value.slice a1 n1 c1).ownBlock = some k → W.heap.size ≤ k)) → wpList P ops Q rest (a.put o.dst (.slice a1 n1 c1)) w') :
    wpList P ops Q (o :: rest) a W := by
  obtain ⟨i, z, hi, hz, hsize, hby, hzs⟩ := hE
  have hs : Src P size t (.slice (some ⟨g, 0, none⟩) 1 1) 1 news W := Src.ofSlice _ ht _ 1 1 news (by omega) (by
    intro j u hu
    have hadd : (⟨g, 0, none⟩ : Addr).add j = ⟨g, j, none⟩ := by unfold Addr.add; split <;> simp_all
    rw [hadd]
    exact cell_of_block hg (by simpa using hu)) h1
  refine wpList_plain hgd fun K hK => ?_
  obtain ⟨v', w', hr, h2, h3, h4, h5⟩ := run_append_row2 (P := P) W t t o.type e i z size bytes ht hi hz hsize hby hzs hsz v n xs hown _ 1 news hs h63 hbytes
  obtain ⟨a1, c1, rfl, -⟩ := h2.slice
  unfold Oper.wp execOp
  simp only [ho, resolve, invoke, builtin, Sem.run_bind, Sem.run_pure, Result.andThen_ok, List.map_toArray, List.map_cons, List.map_nil, hsv, hx, hr]
  exact hK _ _ (h a1 _ c1 w' h2 h3 h4 h5)
end Go.Proofs.YthiiehanlconeaaDoor
namespace Go.Proofs.YthiiehanlconeaaDoor
open Go.RowKit
set_option linter.unusedVariables false
set_option linter.unusedSimpArgs false

def hasK (hp : Hp) (K : List Nat) (h : Int) : Bool := match slotOf hp h with
  | some i => decide (i ∈ K)
  | none => false
def addK (hp : Hp) (K : List Nat) (h : Int) : List Nat := match slotOf hp h with
  | some i => addN K i
  | none => K
theorem mkOf_setlen (bh : Nat) (hp : Hp) (K : List Nat) : (mkOf bh hp K).set.length = hp.slots.length := by unfold mkOf; simp
theorem mkOf_set (bh : Nat) (hp : Hp) (K : List Nat) (i : Nat) (h : i < (mkOf bh hp K).set.length) : (mkOf bh hp K).set[i] = decide (i ∈ K) := by
  have : ∀ (L : List Bool) (hL : L = (List.range hp.slots.length).map fun i => decide (i ∈ K)) (h : i < L.length), L[i] = decide (i ∈ K) := by
    rintro L rfl h
    rw [List.getElem_map, List.getElem_range]
  exact this _ rfl h

set_option maxHeartbeats 1600000 in
set_option maxRecDepth 100000 in
theorem has_any (w0 w : World) (bm bh : Nat) (hp : Hp) (F : List Nat) (K : List Nat) (h : Int) (HH : Here hpR w0 bh 0 hp F) (HM : MkI w0 w bm bh hp K) (hi : -9223372036854775808 ≤ h ∧ h ≤ 9223372036854775807) :
    Calls Tryd.prog 31 #[.pointer (some ⟨bm, 0, none⟩), .int .i64 h] w fun e w' => e = .returned (.bool (hasK hp K h)) ∧ Chg (fun _ => False) w w' := by
  have hs := slot_any w0 w bm bh hp F K h HH HM hi
  obtain ⟨Fm, ho⟩ := HM.own
  unfold hasK
  cases hsl : slotOf hp h with
  | none =>
    rw [hsl] at hs
    have HS := Lib.hid hs
    clear hs hsl ho HM HH hi
    go_enter Tryd.func31, Tryd.ntmps31
    go_wp2_with fail
    refine HS.out.mono ?_
    rintro e w2 ⟨rfl, hc⟩
    have HC := Lib.hid hc
    clear hc HS
    rw [show slotI none = -1 from rfl]
    go_wp2_with fail
    go_ret
    exact ⟨rfl, HC.out⟩
  | some i =>
    rw [hsl] at hs
    obtain ⟨hlt, -, -⟩ := slotOf_lt hsl
    obtain ⟨g, off, cap, m1, hset⟩ := mkSet ho.here (by rw [mkOf_setlen]; omega)
    obtain ⟨q1, -, -⟩ := hset i (by rw [mkOf_setlen]; exact hlt)
    rw [mkOf_set] at q1
    rw [mkOf_setlen] at m1
    have HS := Lib.hid hs
    have h0 : (0 : Int) ≤ (i : Int) := by omega
    have h1 : (i : Int) < (hp.slots.length : Int) := by omega
    have HM1 := Lib.hid m1
    have HQ1 := Lib.hid q1
    clear hs hsl ho HM HH hi hset m1 q1 hlt
    go_enter Tryd.func31, Tryd.ntmps31
    go_wp2_with fail
    refine HS.out.mono ?_
    rintro e w2 ⟨rfl, hc⟩
    have m1 := hc.cell HM1.out
    have q1 := hc.cell HQ1.out
    have HC := Lib.hid hc
    clear hc HS
    rw [show slotI (some i) = (i : Int) from rfl]
    go_wp2_with fail
    go_ret
    exact ⟨rfl, HC.out⟩

/-- The blocks behind the marks. -/
theorem mkFoot {w : World} {bm : Nat} {m : Mk} {F : List Nat} (H : Here mkR w bm 0 m F) : ∃ v1 v2, w.cell? ⟨bm, 1, none⟩ = some v1 ∧ w.cell? ⟨bm, 2, none⟩ = some v2 ∧ F = ownL v1 ++ ownL v2 ∧ (∃ a n c, v1 = .slice a n c) ∧ ∃ a n c, v2 = .slice a n c := by
  obtain ⟨cs, ⟨v1, v2, F1, F2, rfl, h1, h2, rfl⟩, hc⟩ := H.cell
  obtain ⟨x1, e1, r1, rfl⟩ := row_flat.1 h1
  obtain rfl : v1 = x1 := by simpa using e1
  obtain ⟨x2, e2, r2, rfl⟩ := row_flat.1 h2
  obtain rfl : v2 = x2 := by simpa using e2
  have c1 := hc 1 _ rfl
  have c2 := hc 2 _ rfl
  simp only [Nat.zero_add] at c1 c2
  obtain ⟨a1, k1, rfl, -⟩ := r1.slice
  obtain ⟨a2, k2, rfl, -⟩ := r2.slice
  exact ⟨_, _, c1, c2, rfl, ⟨_, _, _, rfl⟩, ⟨_, _, _, rfl⟩⟩
/-- A beginning of the list of marks as it was at some time. -/
def Snap (w : World) (bm : Nat) (F : List Nat) (g off n : Nat) : Prop :=
  (∃ n' c', w.cell? ⟨bm, 2, none⟩ = some (.slice (some ⟨g, off, none⟩) n' c') ∧ n ≤ n') ∨ (g ∉ F ∧ g ≠ bm ∧ g < w.heap.size)
def Snaps (w w' : World) (bm : Nat) (F F' : List Nat) : Prop := ∀ g off n, Snap w bm F g off n → Snap w' bm F' g off n ∧ ∀ j x, j < n → w.cell? ⟨g, off + j, none⟩ = some (.int .i64 x) → w'.cell? ⟨g, off + j, none⟩ = some (.int .i64 x)
section
variable {w w1 w2 w3 w4 : World} {bm : Nat} {m m' : Mk} {F F' F'' : List Nat}
theorem Snaps.still (hc : Chg (fun _ => False) w w1) : Snaps w w1 bm F F := by
  rintro g off n h
  refine ⟨?_, fun j x _ hu => hc.cell hu⟩
  rcases h with ⟨n', c', h1, h2⟩ | ⟨h1, h2, h3⟩
  · exact .inl ⟨n', c', hc.cell h1, h2⟩
  · exact .inr ⟨h1, h2, Nat.lt_of_lt_of_le h3 hc.size⟩
theorem Snaps.trans (h : Snaps w w1 bm F F') (k : Snaps w1 w2 bm F' F'') : Snaps w w2 bm F F'' := by
  intro g off n hs
  obtain ⟨h1, h2⟩ := h g off n hs
  obtain ⟨k1, k2⟩ := k g off n h1
  exact ⟨k1, fun j x hj hu => k2 j x hj (h2 j x hj hu)⟩
theorem Snaps.setBool {gs os : Nat} {b : Bool} (H : Here mkR w bm 0 m F) (hq : w.cell? ⟨gs, os, none⟩ = some (.bool b)) (H' : Here mkR (w.setCell ⟨gs, os, none⟩ (.bool true)) bm 0 m' F') : Snaps w (w.setCell ⟨gs, os, none⟩ (.bool true)) bm F F' := by
  have hother : ∀ k j u, w.cell? ⟨k, j, none⟩ = some u → (∀ b, u ≠ .bool b) → (w.setCell ⟨gs, os, none⟩ (.bool true)).cell? ⟨k, j, none⟩ = some u := by
    intro k j u hu hn
    rw [World.cell?_setCell_other _ _ _ _ (by
      intro e
      rw [Addr.mk.injEq] at e
      obtain ⟨rfl, rfl, -⟩ := e
      rw [hq] at hu
      exact hn b (Option.some.inj hu).symm)]
    exact hu
  obtain ⟨v1, v2, c1, c2, hF, ⟨a1, n1, k1, rfl⟩, ⟨a2, n2, k2, rfl⟩⟩ := mkFoot H
  obtain ⟨x1, x2, d1, d2, hF', -, -⟩ := mkFoot H'
  rw [hother _ _ _ c1 (fun b e => by cases e)] at d1
  rw [hother _ _ _ c2 (fun b e => by cases e)] at d2
  cases d1
  cases d2
  rw [← hF] at hF'
  subst hF'
  intro g off n hs
  refine ⟨?_, fun j x _ hu => hother _ _ _ hu (fun b e => by cases e)⟩
  rcases hs with ⟨n', c', h1, h2⟩ | ⟨h1, h2, h3⟩
  · exact .inl ⟨n', c', hother _ _ _ h1 (fun b e => by cases e), h2⟩
  · exact .inr ⟨h1, h2, by simpa using h3⟩
theorem Snaps.push {W : World} {p : Option Addr} {L cp : Nat} {a2 : Option Addr} {c2 : Nat} (H : Here mkR w bm 0 m F) (hd : w.cell? ⟨bm, 2, none⟩ = some (.slice p L cp)) (hW : Chg (fun _ => False) w W)
    (hchg : Chg (fun k => (Value.slice p L cp).ownBlock = some k) W w4) (hold : ∀ k, (Value.slice a2 (L + 1) c2).ownBlock = some k → (Value.slice p L cp).ownBlock = some k ∨ W.heap.size ≤ k)
    (hkeep : ∀ g off c, Value.slice p L cp = .slice (some ⟨g, off, none⟩) L c → (∀ j u, j < L * 1 → W.cell? ⟨g, off + j, none⟩ = some u → w4.cell? ⟨g, off + j, none⟩ = some u) ∧ ((∃ c', Value.slice a2 (L + 1) c2 = .slice (some ⟨g, off, none⟩) (L + 1) c') ∨ Chg (fun _ => False) W w4 ∧ ∀ k, (Value.slice a2 (L + 1) c2).ownBlock = some k → W.heap.size ≤ k))
    (H' : Here mkR (w4.setCell ⟨bm, 2, none⟩ (.slice a2 (L + 1) c2)) bm 0 m' F') : Snaps w (w4.setCell ⟨bm, 2, none⟩ (.slice a2 (L + 1) c2)) bm F F' := by
  obtain ⟨v1, v2, e1, e2, hF, ⟨s1, n1, k1, rfl⟩, -⟩ := mkFoot H
  rw [hd] at e2
  cases e2
  have hlt := H.lt
  have hnb := H.nb
  have hnd := H.nd
  rw [hF] at hnb hnd
  have hpb : ∀ k, (Value.slice p L cp).ownBlock = some k → k ≠ bm := fun k hk e => hnb (List.mem_append_right _ (mem_ownL.2 (e ▸ hk)))
  have hW4 : ∀ k j u, W.cell? ⟨k, j, none⟩ = some u → (∀ q, (Value.slice p L cp).ownBlock = some q → q ≠ k) → w4.cell? ⟨k, j, none⟩ = some u := fun k j u hu hk => hchg.cellS hu (fun x => hk k x rfl)
  have c1' : w4.cell? ⟨bm, 1, none⟩ = some (.slice s1 n1 k1) := hW4 _ _ _ (hW.cell e1) hpb
  have c2' : w4.cell? ⟨bm, 2, none⟩ = some (.slice p L cp) := hW4 _ _ _ (hW.cell hd) hpb
  obtain ⟨x1, x2, d1, d2, hF', -, -⟩ := mkFoot H'
  rw [World.cell?_setCell_other _ _ _ _ (by intro e; cases e), c1'] at d1
  rw [World.cell?_setCell_same _ _ _ c2'] at d2
  cases d1
  cases d2
  have hsz : W.heap.size ≤ w4.heap.size := hchg.size
  intro g off n hs
  rcases hs with ⟨n', c', h1, h2⟩ | ⟨h1, h2, h3⟩
  · rw [hd] at h1
    cases h1
    have hgF : g ∈ F := by rw [hF]; exact List.mem_append_right _ (mem_ownL.2 rfl)
    have hgb : g ≠ bm := hpb g rfl
    obtain ⟨q1, q2⟩ := hkeep g off cp rfl
    refine ⟨?_, fun j x hj hu => ?_⟩
    · rcases q2 with ⟨c'', e⟩ | ⟨-, hnew⟩
      · rw [e]
        exact .inl ⟨L + 1, c'', World.cell?_setCell_same _ _ _ c2', by omega⟩
      · refine .inr ⟨fun hx => ?_, hgb, ?_⟩
        · rw [hF'] at hx
          rcases List.mem_append.1 hx with y | y
          · exact (List.nodup_append.1 hnd).2.2 g y g (mem_ownL.2 rfl) rfl
          · have := hnew g (mem_ownL.1 y)
            have := hlt.2 g hgF
            have := hW.size
            omega
        · have := hlt.2 g hgF
          have := hW.size
          simp only [World.size_setCell]
          omega
    · rw [World.cell?_setCell_other _ _ _ _ (by intro e; rw [Addr.mk.injEq] at e; exact hgb e.1.symm)]
      exact q1 j _ (by omega) (hW.cell hu)
  · have hpg : ∀ q, (Value.slice p L cp).ownBlock = some q → q ≠ g := fun q hq e => h1 (by rw [hF]; exact List.mem_append_right _ (mem_ownL.2 (e ▸ hq)))
    refine ⟨.inr ⟨fun hx => ?_, h2, ?_⟩, fun j x hj hu => ?_⟩
    · rw [hF'] at hx
      rcases List.mem_append.1 hx with y | y
      · exact h1 (by rw [hF]; exact List.mem_append_left _ y)
      · rcases hold g (mem_ownL.1 y) with z | z
        · exact hpg g z rfl
        · have := hW.size; omega
    · have := hW.size
      simp only [World.size_setCell]
      omega
    · rw [World.cell?_setCell_other _ _ _ _ (by intro e; rw [Addr.mk.injEq] at e; exact h2 e.1.symm)]
      exact hW4 _ _ _ (hW.cell hu) hpg
end
/-- What add has done to the marks: a step at their block. -/
def MkP (w0 w : World) (bm bh : Nat) (hp : Hp) (K' : List Nat) (F : List Nat) (w' : World) : Prop := ∃ F', Own mkR w0 w' bm 0 (mkOf bh hp K') F' ∧ KOk hp K' ∧ Step w w' bm 0 3 F F' ∧ Snaps w w' bm F F'

set_option maxHeartbeats 1600000 in
set_option maxRecDepth 100000 in
theorem madd_any (w0 w : World) (bm bh : Nat) (hp : Hp) (F : List Nat) (K : List Nat) (h : Int) (HH : Here hpR w0 bh 0 hp F) (Fm : List Nat) (HO0 : Own mkR w0 w bm 0 (mkOf bh hp K) Fm) (HG0 : KOk hp K) (hi : -9223372036854775808 ≤ h ∧ h ≤ 9223372036854775807) (hl : hp.slots.length ≤ 100000) :
    Calls Tryd.prog 22 #[.pointer (some ⟨bm, 0, none⟩), .int .i64 h] w fun e w' => e = .returned (.tuple #[]) ∧ MkP w0 w bm bh hp (addK hp K h) Fm w' := by
  have hs := slot_any w0 w bm bh hp F K h HH ⟨⟨Fm, HO0⟩, HG0⟩ hi
  unfold addK
  have HOH := Lib.hid HO0
  have HG := Lib.hid HG0
  cases hsl : slotOf hp h with
  | none =>
    rw [hsl] at hs
    have HS := Lib.hid hs
    clear hs hsl HO0 HG0 HH hi
    go_enter Tryd.func22, Tryd.ntmps22
    go_wp2_with fail
    refine HS.out.mono ?_
    rintro e w2 ⟨rfl, hc⟩
    have HC := Lib.hid hc
    clear hc HS
    rw [show slotI none = -1 from rfl]
    go_wp2_with fail
    go_end0
    exact ⟨rfl, ⟨Fm, HOH.out.still HC.out, HG.out, Step.ofChg HC.out, Snaps.still HC.out⟩⟩
  | some i =>
    rw [hsl] at hs
    obtain ⟨hlt, hus, hix⟩ := slotOf_lt hsl
    have HUS := Lib.hid (HG0.add hlt hus)
    have HS := Lib.hid hs
    have HLT := Lib.hid hlt
    have HIX := Lib.hid (handle_of_index hix).1
    have h0 : (0 : Int) ≤ (i : Int) := by omega
    have h1 : (i : Int) < (hp.slots.length : Int) := by omega
    show Calls _ _ _ _ fun e w' => e = .returned (.tuple #[]) ∧ MkP w0 w bm bh hp (addN K i) Fm w'
    generalize hk2 : addN K i = K2
    have HK2 := Lib.hid hk2
    clear hs hsl HO0 HG0 HH hi hus hlt hix hk2
    go_enter Tryd.func22, Tryd.ntmps22
    go_wp2_with fail
    refine HS.out.mono ?_
    rintro e w2 ⟨rfl, hc⟩
    have ho := HOH.out.still hc
    have HCH := Lib.hid hc
    obtain ⟨g, off, cap, m1, hset⟩ := mkSet ho.here (by rw [mkOf_setlen]; have := HLT.out; omega)
    obtain ⟨q1, q2, q3⟩ := hset i (by rw [mkOf_setlen]; exact HLT.out)
    rw [mkOf_set] at q1
    rw [mkOf_setlen] at m1
    have HP := Lib.hid (q3 true)
    have HO := Lib.hid ho
    clear hset q3 hc HOH HS ho
    rw [show slotI (some i) = (i : Int) from rfl]
    by_cases hin : i ∈ K
    · have e1 : decide (i ∈ K) = true := decide_eq_true hin
      rw [e1] at q1
      have HK3 : Hid (K2 = K) := Lib.hid (by rw [← HK2.out]; unfold addN; rw [if_pos hin])
      clear e1 hin HP q2
      go_wp2_with fail
      go_end0
      rw [HK3.out]
      exact ⟨rfl, ⟨Fm, HO.out, HG.out, Step.ofChg HCH.out, Snaps.still HCH.out⟩⟩
    · have e1 : decide (i ∈ K) = false := decide_eq_false hin
      rw [e1] at q1
      have HK3 : Hid (K2 = K ++ [i]) := Lib.hid (by rw [← HK2.out]; unfold addN; rw [if_neg hin])
      have HG2 : Hid (KOk hp (K ++ [i])) := Lib.hid (by
        have := HUS.out
        unfold addN at this
        rwa [if_neg hin] at this)
      clear e1 hin
      go_upto_region 3 with fail
      obtain ⟨Fp, hp1, hst⟩ := HP.out
      have HQ1 := Lib.hid q1
      clear m1 q1 q2 HP
      have ho' : Own mkR w0 (w2.setCell ⟨g, off + i, none⟩ (.bool true)) bm 0 { mkOf bh hp K with set := (mkOf bh hp K).set.set i true } Fp := HO.out.step hp1 hst
      have HST0 := Lib.hid ((Step.ofChg HCH.out).trans hst)
      have HSN0 : Hid (Snaps w (w2.setCell ⟨g, off + i, none⟩ (.bool true)) bm Fm Fp) := Lib.hid ((Snaps.still HCH.out).trans (Snaps.setBool HO.out.here HQ1.out hp1))
      generalize w2.setCell ⟨g, off + i, none⟩ (.bool true) = w3 at *
      clear hp1 hst HO
      obtain ⟨p, cp, xs, Fs, Fr, d2, hopen, f2, hstay, hback⟩ := ho'.here.fieldAppending mkR_list (by show 0 < 3; decide)
      simp only [Nat.zero_add] at d2 f2 hstay hback
      have hlk : (mkOf bh hp K).list.length = K.length := by unfold mkOf; simp
      have hlen : K.length ≤ 100000 := Nat.le_trans (good_len _ _ HG.out.good) hl
      change w3.cell? ⟨bm, 2, none⟩ = some (.slice p (mkOf bh hp K).list.length cp) at d2
      have hrowA := (hopen.row.alloc (.cells #[.int .i64 h] 3))
      have HST := Lib.hid hstay
      have HBK := Lib.hid hback
      have HO3 := Lib.hid ho'
      have HD2 := Lib.hid d2
      have HLN : Hid ((mkOf bh hp K).list.length ≤ 100000) := Lib.hid (by omega)
      clear hstay hback hopen ho' hlk hlen
      go_wp2_with (first
        | (at_builtin; refine list_append_elem2 rfl (.tmp 30) (.tmp 32) 27 rfl 3 1 8 Tryd.underlying27 elem_int (by decide) _ (mkOf bh hp K).list.length xs.flatten rfl hrowA [.int .i64 h] rfl w3.heap.size 3 (0, 0) rfl (alloc_block w3 _) (by simp [Value.oneCell']) (by have := HLN.out; unfold maxLen; omega) (by have := HLN.out; omega) ?_; intro a2 n2 c2 w4 hrow2 hchg2 hold2 hkeep2; have dd := (HST.out _ _ (Chg.alloc _ w3 _) hchg2).1; have ff := (HST.out _ _ (Chg.alloc _ w3 _) hchg2).2))
      go_end0
      rw [HK3.out]
      have hpost := HBK.out _ _ [.int .i64 h] h [] _ (Chg.alloc _ w3 _) ⟨rfl, rfl⟩ (by simp) (by simp) hrow2 hchg2 hold2
      obtain ⟨F4, hh4, hs4⟩ := hpost
      obtain ⟨_, _, hnn, -⟩ := hrow2.slice
      cases hnn
      have hsn := Snaps.push HO3.out.here HD2.out (Chg.alloc _ w3 _) hchg2 hold2 hkeep2 hh4
      rw [← HIX.out, mkOf_push] at hh4
      exact ⟨rfl, ⟨F4, HO3.out.step hh4 hs4, HG2.out, HST0.out.trans hs4, HSN0.out.trans hsn⟩⟩
end Go.Proofs.YthiiehanlconeaaDoor
namespace Go.Proofs.YthiiehanlconeaaDoor
open Go.RowKit
set_option linter.unusedVariables false
set_option linter.unusedSimpArgs false

def frameRefs (f : Frm) : List Int := (((refsV [f.this] ++ refsV f.locals) ++ refsV f.stack) ++ [f.env, f.object]) ++ refsV f.values
def framesM (l : List Frm) : List Int := nz (l.flatMap frameRefs)
def FrmOk (f : Frm) : Prop := f.locals.length ≤ 100 ∧ f.stack.length ≤ 100 ∧ f.values.length ≤ 100
theorem frameRefs_len {f : Frm} (h : FrmOk f) : (frameRefs f).length ≤ 303 := by
  obtain ⟨h1, h2, h3⟩ := h
  have a1 := refsV_len [f.this]
  have a2 := refsV_len f.locals
  have a3 := refsV_len f.stack
  have a4 := refsV_len f.values
  unfold frameRefs
  simp only [List.length_append, List.length_cons, List.length_nil] at *
  omega
theorem framesRefs_len : ∀ (l : List Frm), (∀ f ∈ l, FrmOk f) → (l.flatMap frameRefs).length ≤ l.length * 303
  | [], _ => by simp
  | f :: l, h => by
    have h1 := frameRefs_len (h f (by simp))
    have h2 := framesRefs_len l (fun g hg => h g (by simp [hg]))
    rw [List.flatMap_cons, List.length_append, List.length_cons, Nat.add_mul]
    omega
def frmC (f : Frm) (vl vs vv : Value) : List Value := [.int .i64 f.kind, .int .i64 f.func, .int .i64 f.pc, .int .i64 f.tkind, .int .i64 f.tint, .string f.tstr, .int .i64 f.tref, vl, vs, .int .i64 f.env, .int .i64 f.scope, .int .i64 f.mode, .int .i64 f.object, .int .i64 f.host, .int .i64 f.phase, vv]
/-- A frame that is being looked through. -/
structure FrS (w W : World) (bt : Nat) (cs : List Value) (v : Value) (acc : List Int) : Prop where
  out : OutI w W v acc
  blk : W.heap[bt]? = some (.cells cs.toArray 106 (0, 0))
  ne : ∀ k, v.ownBlock = some k → k ≠ bt
section
variable {w W W1 W2 : World} {bt : Nat} {cs : List Value} {v v2 : Value} {acc acc2 : List Int}
theorem FrS.still (h : FrS w W bt cs v acc) (hc : Chg (fun _ => False) W W1) : FrS w W1 bt cs v acc := ⟨h.out.still hc, hc.keep h.blk (fun x => x), h.ne⟩
theorem FrS.cell (h : FrS w W bt cs v acc) (j : Nat) (u : Value) (hu : cs[j]? = some u) : W.cell? ⟨bt, j, none⟩ = some u := cell_of_block h.blk (by simpa using hu)
theorem FrS.app (h : FrS w W bt cs v acc) (h1 : Chg (fun _ => False) W W1) (ho : OutI w W2 v2 acc2) (hc : Chg (fun k => v.ownBlock = some k) W1 W2) (hold : ∀ k, v2.ownBlock = some k → v.ownBlock = some k ∨ W1.heap.size ≤ k) : FrS w W2 bt cs v2 acc2 := by
  have hb := h1.keep h.blk (fun x => x)
  refine ⟨ho, hc.keep hb (fun x => h.ne _ x rfl), fun k hk e => ?_⟩
  rcases hold k hk with x | x
  · exact h.ne k x e
  · have := lt_of_block hb; omega
end

set_option maxHeartbeats 3200000 in
set_option maxRecDepth 100000 in
theorem frames_any (w : World) (v : Value) (l : List Frm) (F : List Nat) (hv : (frmR.row 106).own w [v] l F) (hl : l.length ≤ 1000) (hok : ∀ f ∈ l, FrmOk f) :
    Calls Tryd.prog 32 #[v] w fun e w' => ∃ v', e = .returned v' ∧ OutI w w' v' (framesM l) := by
  obtain ⟨xs0, Fs0, hop⟩ := Rep.opened hv
  obtain ⟨ad, cap, rfl, hle, hcap⟩ := hop.val
  have HV0 := Lib.hid hv
  have HOK := Lib.hid hok
  have HL := Lib.hid hl
  have hln : (l.length : Int) ≤ 9223372036854775807 := by omega
  clear hv hop hle hcap hok hl
  go_enter Tryd.func32, Tryd.ntmps32
  go_wp2_with fail
  go_loopw [3, 5, 8] (fun u3 _ u8 wr => ∃ (k : Nat) (a : Option Addr) (n c : Nat), k ≤ l.length ∧ u8 = .int .i64 k ∧ u3 = .slice a n c ∧ OutI w wr (.slice a n c) ((l.take k).flatMap frameRefs)) (fun _ _ u8 _ => l.length - (intOf u8).toNat)
  case atStart => exact ⟨0, none, 0, 0, by omega, rfl, rfl, OutI.nil w⟩
  case round =>
    obtain ⟨k, a, n, c, hk, rfl, rfl, HO⟩ := hrel
    by_cases hlt : k < l.length
    · have h0 : (0 : Int) ≤ (k : Int) := by omega
      have h1 : (k : Int) < (l.length : Int) := by omega
      obtain ⟨xs1, Fs1, hop⟩ := Rep.opened HV0.out
      obtain ⟨g, off, cap', hv, -, -, -, -, hat⟩ := hop.at (by omega)
      cases hv
      obtain ⟨x, G, hx, -, hcell⟩ := hat k hlt
      obtain ⟨vl, vs, vv, Fl, Fs', Fv, rfl, ol, os, ov, -⟩ := hx
      obtain ⟨vl', hvl, rl, -⟩ := row_flat.1 ol
      obtain rfl : vl = vl' := by simpa using hvl
      obtain ⟨vs', hvs, rs, -⟩ := row_flat.1 os
      obtain rfl : vs = vs' := by simpa using hvs
      obtain ⟨vv', hvv, rv, -⟩ := row_flat.1 ov
      obtain rfl : vv = vv' := by simpa using hvv
      obtain ⟨al, cl, rfl, -⟩ := rl.slice
      obtain ⟨as_, cs_, rfl, -⟩ := rs.slice
      obtain ⟨av, cv, rfl, -⟩ := rv.slice

      have c0 := HO.chg.cell (hcell 0 _ rfl)
      have c1 := HO.chg.cell (hcell 1 _ rfl)
      have c2 := HO.chg.cell (hcell 2 _ rfl)
      have c3 := HO.chg.cell (hcell 3 _ rfl)
      have c4 := HO.chg.cell (hcell 4 _ rfl)
      have c5 := HO.chg.cell (hcell 5 _ rfl)
      have c6 := HO.chg.cell (hcell 6 _ rfl)
      have c7 := HO.chg.cell (hcell 7 _ rfl)
      have c8 := HO.chg.cell (hcell 8 _ rfl)
      have c9 := HO.chg.cell (hcell 9 _ rfl)
      have c10 := HO.chg.cell (hcell 10 _ rfl)
      have c11 := HO.chg.cell (hcell 11 _ rfl)
      have c12 := HO.chg.cell (hcell 12 _ rfl)
      have c13 := HO.chg.cell (hcell 13 _ rfl)
      have c14 := HO.chg.cell (hcell 14 _ rfl)
      have c15 := HO.chg.cell (hcell 15 _ rfl)
      have e16 : off + k * frmR.n = off + k * 16 := rfl
      rw [e16] at c0 c1 c2 c3 c4 c5 c6 c7 c8 c9 c10 c11 c12 c13 c14 c15
      rw [Nat.add_zero] at c0
      have w64 : IntKind.i64.wrap ((k : Int) + 1) = ((k + 1 : Nat) : Int) := IntWalk.i64_in _ (by omega)
      have HT : Hid ((l.take (k + 1)).flatMap frameRefs = (l.take k).flatMap frameRefs ++ frameRefs l[k]) := Lib.hid (by rw [List.take_succ_eq_append_getElem hlt, List.flatMap_append]; simp)
      have HLT := Lib.hid hlt
      have HOKF := Lib.hid (HOK.out l[k] (List.getElem_mem hlt))
      have HAC : Hid (((l.take k).flatMap frameRefs).length ≤ 303000) := Lib.hid (by
        have h1 := framesRefs_len (l.take k) (fun f hf => HOK.out f (List.mem_of_mem_take hf))
        have h2 : (l.take k).length ≤ 1000 := Nat.le_trans (List.length_take_le ..) (by have := HL.out; omega)
        omega)
      have HNX := Lib.hid (show k + 1 ≤ l.length from hlt)
      have HR0 : Hid (∀ (L : List Val) (v : Value), (L = l[k].locals ∧ v = .slice al l[k].locals.length cl) ∨ (L = l[k].stack ∧ v = .slice as_ l[k].stack.length cs_) ∨ (L = l[k].values ∧ v = .slice av l[k].values.length cv) → ∀ W', Chg (fun _ => False) w W' → RowAt W' 38 4 v L.length (L.flatMap Val.cells)) := Lib.hid (by
        rintro L v (⟨rfl, rfl⟩ | ⟨rfl, rfl⟩ | ⟨rfl, rfl⟩) W' hc
        · exact rl.chg hc (fun _ _ x => x)
        · exact rs.chg hc (fun _ _ x => x)
        · exact rv.chg hc (fun _ _ x => x))
      have RL := Lib.hid (rl.chg HO.chg (fun _ _ x => x))
      have RS := Lib.hid (rs.chg HO.chg (fun _ _ x => x))
      have RV := Lib.hid (rv.chg HO.chg (fun _ _ x => x))
      clear hcell hk hat hop ol os ov rl rs rv e16 hvl hvs hvv
      generalize l[k] = f at *
      generalize (l.take k).flatMap frameRefs = acc0 at *
      clear hlt
      go_upto_region 5 with fail
      have hblk := alloc_block wr (.cells #[.int .i64 f.kind, .int .i64 f.func, .int .i64 f.pc, .int .i64 f.tkind, .int .i64 f.tint, .string f.tstr, .int .i64 f.tref, .slice al f.locals.length cl, .slice as_ f.stack.length cs_, .int .i64 f.env, .int .i64 f.scope, .int .i64 f.mode, .int .i64 f.object, .int .i64 f.host, .int .i64 f.phase, .slice av f.values.length cv] 106)
      have hc1 := Chg.alloc (fun _ => False) wr (.cells #[.int .i64 f.kind, .int .i64 f.func, .int .i64 f.pc, .int .i64 f.tkind, .int .i64 f.tint, .string f.tstr, .int .i64 f.tref, .slice al f.locals.length cl, .slice as_ f.stack.length cs_, .int .i64 f.env, .int .i64 f.scope, .int .i64 f.mode, .int .i64 f.object, .int .i64 f.host, .int .i64 f.phase, .slice av f.values.length cv] 106)
      have FS0 : FrS w _ wr.heap.size (frmC f (.slice al f.locals.length cl) (.slice as_ f.stack.length cs_) (.slice av f.values.length cv)) (.slice a n c) acc0 := ⟨HO.still hc1, hblk, fun k hk e => by have := HO.lt k hk; omega⟩
      have HROW : Hid (∀ (L : List Val) (v : Value), (L = f.locals ∧ v = .slice al f.locals.length cl) ∨ (L = f.stack ∧ v = .slice as_ f.stack.length cs_) ∨ (L = f.values ∧ v = .slice av f.values.length cv) → ∀ W', Chg (fun _ => False) w W' → RowAt W' 38 4 v L.length (L.flatMap Val.cells)) := HR0
      have RL1 := Lib.hid (RL.out.chg hc1 (fun _ _ x => x))
      have RS1 := Lib.hid (RS.out.chg hc1 (fun _ _ x => x))
      have RV1 := Lib.hid (RV.out.chg hc1 (fun _ _ x => x))
      clear c0 c1 c2 c3 c4 c5 c6 c7 c8 c9 c10 c11 c12 c13 c14 c15 hblk RL RS RV h0 h1 HO hc1 HR0
      generalize wr.alloc (.cells #[.int .i64 f.kind, .int .i64 f.func, .int .i64 f.pc, .int .i64 f.tkind, .int .i64 f.tint, .string f.tstr, .int .i64 f.tref, .slice al f.locals.length cl, .slice as_ f.stack.length cs_, .int .i64 f.env, .int .i64 f.scope, .int .i64 f.mode, .int .i64 f.object, .int .i64 f.host, .int .i64 f.phase, .slice av f.values.length cv] 106) = W0 at *
      generalize wr.heap.size = bt at *
      -- region 5
      have t3 := FS0.cell 3 _ rfl
      have t4 := FS0.cell 4 _ rfl
      have t5 := FS0.cell 5 _ rfl
      have t6 := FS0.cell 6 _ rfl
      have HV := Lib.hid (values_any _ _ [f.this] (RowAt.lit (W := W0) (e := 38) (n := 1) (size := 4) [.int .i64 f.tkind, .int .i64 f.tint, .string f.tstr, .int .i64 f.tref] rfl (by simp [maxLen])) (Few.of 1 (Nat.le_refl _) (by omega)))
      have HN := Lib.hid (Nat.le_trans (refsV_len [f.this]) (show 1 ≤ 1 from Nat.le_refl _))
      have HB : Hid ((acc0 ++ refsV [f.this]).length ≤ 303000 + 1) := Lib.hid (by rw [List.length_append]; have := HAC.out; have := HN.out; omega)
      have HFW : Hid (Few ((acc0).length + (refsV [f.this]).length)) := Lib.hid ⟨by have := HB.out; rw [List.length_append] at this; omega⟩
      go_upto_region 6 with (first
        | (go_at_call 33; refine HV.out.mono ?_; rintro e wq ⟨vq, rfl, HQ⟩; obtain ⟨aq, cq, rfl, -⟩ := HQ.val; have hcq := (Chg.alloc (fun _ => False) W0 (.cells #[.int .i64 f.tkind, .int .i64 f.tint, .string f.tstr, .int .i64 f.tref] 38)).trans' HQ.chg; have HO1 := FS0.out.still hcq; clear HV)
        | (at_builtin; refine wpList_out rfl (.tmp 12) (.tmp 16) rfl _ (acc0) rfl HO1 _ (refsV [f.this]) rfl HQ.row HFW.out ?_; intro a1 n1 c1 W1 HO2 hch2 hold2))
      have FS1 := FS0.app hcq HO2 hch2 hold2
      have RL1' := Lib.hid (HROW.out f.locals _ (by first | exact .inl ⟨rfl, rfl⟩ | exact .inr (.inl ⟨rfl, rfl⟩) | exact .inr (.inr ⟨rfl, rfl⟩)) W1 FS1.out.chg)
      have RS1' := Lib.hid (HROW.out f.stack _ (by first | exact .inl ⟨rfl, rfl⟩ | exact .inr (.inl ⟨rfl, rfl⟩) | exact .inr (.inr ⟨rfl, rfl⟩)) W1 FS1.out.chg)
      have RV1' := Lib.hid (HROW.out f.values _ (by first | exact .inl ⟨rfl, rfl⟩ | exact .inr (.inl ⟨rfl, rfl⟩) | exact .inr (.inr ⟨rfl, rfl⟩)) W1 FS1.out.chg)
      clear HO2 hch2 hold2 HO1 HFW hcq HQ HN t3 t4 t5 t6 FS0 HAC
      clear RL1
      have RL1 := RL1'
      clear RL1'
      clear RS1
      have RS1 := RS1'
      clear RS1'
      clear RV1
      have RV1 := RV1'
      clear RV1'
      have HAC := HB
      clear HB
      -- region 6
      have t7 := FS1.cell 7 _ rfl
      have HV := Lib.hid (values_any W1 _ f.locals RL1.out (⟨by have := HOKF.out; unfold FrmOk at this; omega⟩ : Few _))
      have HN : Hid ((refsV f.locals).length ≤ 100) := Lib.hid (Nat.le_trans (refsV_len _) (by have := HOKF.out; unfold FrmOk at this; omega))
      have HB : Hid ((acc0 ++ refsV [f.this] ++ refsV f.locals).length ≤ 303000 + 1 + 100) := Lib.hid (by rw [List.length_append]; have := HAC.out; have := HN.out; omega)
      have HFW : Hid (Few ((acc0 ++ refsV [f.this]).length + (refsV f.locals).length)) := Lib.hid ⟨by have := HB.out; rw [List.length_append] at this; omega⟩
      go_upto_region 7 with (first
        | (go_at_call 33; refine HV.out.mono ?_; rintro e wq ⟨vq, rfl, HQ⟩; obtain ⟨aq, cq, rfl, -⟩ := HQ.val; have hcq := HQ.chg; have HO1 := FS1.out.still hcq; clear HV)
        | (at_builtin; refine wpList_out rfl (.tmp 18) (.tmp 21) rfl _ (acc0 ++ refsV [f.this]) rfl HO1 _ (refsV f.locals) rfl HQ.row HFW.out ?_; intro a2 n2 c2 W2 HO2 hch2 hold2))
      have FS2 := FS1.app hcq HO2 hch2 hold2
      have RS1' := Lib.hid (HROW.out f.stack _ (by first | exact .inl ⟨rfl, rfl⟩ | exact .inr (.inl ⟨rfl, rfl⟩) | exact .inr (.inr ⟨rfl, rfl⟩)) W2 FS2.out.chg)
      have RV1' := Lib.hid (HROW.out f.values _ (by first | exact .inl ⟨rfl, rfl⟩ | exact .inr (.inl ⟨rfl, rfl⟩) | exact .inr (.inr ⟨rfl, rfl⟩)) W2 FS2.out.chg)
      clear HO2 hch2 hold2 HO1 HFW hcq HQ HN t7 FS1 HAC
      clear RS1
      have RS1 := RS1'
      clear RS1'
      clear RV1
      have RV1 := RV1'
      clear RV1'
      have HAC := HB
      clear HB
      -- region 7
      have t8 := FS2.cell 8 _ rfl
      have HV := Lib.hid (values_any W2 _ f.stack RS1.out (⟨by have := HOKF.out; unfold FrmOk at this; omega⟩ : Few _))
      have HN : Hid ((refsV f.stack).length ≤ 100) := Lib.hid (Nat.le_trans (refsV_len _) (by have := HOKF.out; unfold FrmOk at this; omega))
      have HB : Hid ((acc0 ++ refsV [f.this] ++ refsV f.locals ++ refsV f.stack).length ≤ 303000 + 1 + 100 + 100) := Lib.hid (by rw [List.length_append]; have := HAC.out; have := HN.out; omega)
      have HFW : Hid (Few ((acc0 ++ refsV [f.this] ++ refsV f.locals).length + (refsV f.stack).length)) := Lib.hid ⟨by have := HB.out; rw [List.length_append] at this; omega⟩
      go_upto_region 8 with (first
        | (go_at_call 33; refine HV.out.mono ?_; rintro e wq ⟨vq, rfl, HQ⟩; obtain ⟨aq, cq, rfl, -⟩ := HQ.val; have hcq := HQ.chg; have HO1 := FS2.out.still hcq; clear HV)
        | (at_builtin; refine wpList_out rfl (.tmp 23) (.tmp 26) rfl _ (acc0 ++ refsV [f.this] ++ refsV f.locals) rfl HO1 _ (refsV f.stack) rfl HQ.row HFW.out ?_; intro a3 n3 c3 W3 HO2 hch2 hold2))
      have FS3 := FS2.app hcq HO2 hch2 hold2
      have RV1' := Lib.hid (HROW.out f.values _ (by first | exact .inl ⟨rfl, rfl⟩ | exact .inr (.inl ⟨rfl, rfl⟩) | exact .inr (.inr ⟨rfl, rfl⟩)) W3 FS3.out.chg)
      clear HO2 hch2 hold2 HO1 HFW hcq HQ HN t8 FS2 HAC
      clear RV1
      have RV1 := RV1'
      clear RV1'
      have HAC := HB
      clear HB
      -- region 8
      have t9 := FS3.cell 9 _ rfl
      have t12 := FS3.cell 12 _ rfl
      have HO1 := FS3.out.still (Chg.alloc (fun _ => False) W3 (.cells #[.int .i64 f.env, .int .i64 f.object] 3))
      have HB : Hid ((acc0 ++ refsV [f.this] ++ refsV f.locals ++ refsV f.stack ++ [f.env, f.object]).length ≤ 303000 + 1 + 100 + 100 + 2) := Lib.hid (by rw [List.length_append]; have := HAC.out; simp only [List.length_cons, List.length_nil] at *; omega)
      have HFW : Hid (Few ((acc0 ++ refsV [f.this] ++ refsV f.locals ++ refsV f.stack).length + ([f.env, f.object]).length)) := Lib.hid ⟨by have := HB.out; rw [List.length_append] at this; omega⟩
      go_upto_region 9 with (first
        | (at_builtin; refine wpList_out rfl (.tmp 28) (.tmp 33) rfl _ (acc0 ++ refsV [f.this] ++ refsV f.locals ++ refsV f.stack) rfl HO1 _ ([f.env, f.object]) rfl (RowAt.lit [.int .i64 f.env, .int .i64 f.object] rfl (by simp [maxLen])) HFW.out ?_; intro a4 n4 c4 W4 HO2 hch2 hold2))
      have FS4 := FS3.app (Chg.alloc (fun _ => False) W3 _) HO2 hch2 hold2
      have RV1' := Lib.hid (HROW.out f.values _ (by first | exact .inl ⟨rfl, rfl⟩ | exact .inr (.inl ⟨rfl, rfl⟩) | exact .inr (.inr ⟨rfl, rfl⟩)) W4 FS4.out.chg)
      clear HO2 hch2 hold2 HO1 HFW t9 t12 FS3 HAC
      clear RV1
      have RV1 := RV1'
      clear RV1'
      have HAC := HB
      clear HB
      -- region 9
      have t15 := FS4.cell 15 _ rfl
      have HV := Lib.hid (values_any W4 _ f.values RV1.out (⟨by have := HOKF.out; unfold FrmOk at this; omega⟩ : Few _))
      have HN : Hid ((refsV f.values).length ≤ 100) := Lib.hid (Nat.le_trans (refsV_len _) (by have := HOKF.out; unfold FrmOk at this; omega))
      have HB : Hid ((acc0 ++ refsV [f.this] ++ refsV f.locals ++ refsV f.stack ++ [f.env, f.object] ++ refsV f.values).length ≤ 303000 + 1 + 100 + 100 + 2 + 100) := Lib.hid (by rw [List.length_append]; have := HAC.out; have := HN.out; omega)
      have HFW : Hid (Few ((acc0 ++ refsV [f.this] ++ refsV f.locals ++ refsV f.stack ++ [f.env, f.object]).length + (refsV f.values).length)) := Lib.hid ⟨by have := HB.out; rw [List.length_append] at this; omega⟩
      go_wp2_with (first
        | (go_at_call 33; refine HV.out.mono ?_; rintro e wq ⟨vq, rfl, HQ⟩; obtain ⟨aq, cq, rfl, -⟩ := HQ.val; have hcq := HQ.chg; have HO1 := FS4.out.still hcq; clear HV)
        | (at_builtin; refine wpList_out rfl (.tmp 35) (.tmp 38) rfl _ (acc0 ++ refsV [f.this] ++ refsV f.locals ++ refsV f.stack ++ [f.env, f.object]) rfl HO1 _ (refsV f.values) rfl HQ.row HFW.out ?_; intro a5 n5 c5 W5 HO2 hch2 hold2))
      have FS5 := FS4.app hcq HO2 hch2 hold2
      clear HO2 hch2 hold2 HO1 HFW hcq HQ HN t15 FS4 HAC
      have HAC := HB
      clear HB
      go_roundw
      case rel => exact ⟨k + 1, a5, n5, c5, HNX.out, rfl, rfl, by rw [HT.out, show acc0 ++ frameRefs f = acc0 ++ refsV [f.this] ++ refsV f.locals ++ refsV f.stack ++ [f.env, f.object] ++ refsV f.values from by simp [frameRefs]]; exact FS5.out⟩
      case measure => have := HLT.out; simp [intOf, w64]; omega
    · have hk2 : k = l.length := by omega
      subst hk2
      rw [List.take_length] at HO
      have HW := Lib.hid (without_any w wr _ _ HO (⟨by have := framesRefs_len l HOK.out; have := HL.out; omega⟩ : Few _))
      have HO1 := Lib.hid HO
      clear HO hlt hk
      go_wp2_with (first | (go_at_call 48; refine HW.out.mono ?_; rintro e w2 ⟨v2, rfl, HO2⟩))
      go_ret
      exact ⟨_, rfl, ⟨HO2.row, fun k hk => Nat.le_trans HO1.out.chg.size (HO2.lo k hk), HO1.out.chg.trans' HO2.chg⟩⟩
end Go.Proofs.YthiiehanlconeaaDoor
namespace Go.Proofs.YthiiehanlconeaaDoor
open Go.RowKit
attribute [local go_sem] Oper.semAt_some
set_option linter.unusedVariables false
set_option linter.unusedSimpArgs false

theorem Chg.putObj {S : Nat → Prop} {a b : World} (h : Chg S a b) (l : Nat) (o : _root_.Go.Obj) (hl : l < a.heap.size → S l) : Chg S a (b.putObj l o) :=
  h.trans (Chg.grown (grownBy_putObj' b l o)) (fun _ _ x => x) (fun i hi e => by cases e; exact hl hi)
/-- The contract of an iterator that makes its list first and changes nothing that lay there. -/
def SeqList {α : Type} (F : Fence) (n : Nat) (P : Program) (g : Nat) (lb : Array Value) (encs : α → Array Value) (xs : List α) (W : World) : Prop :=
  ∀ (l : Nat) (J : Nat → List α → World → Prop), (∀ W', Chg (fun _ => False) W W' → J W'.heap.size [] W') →
    (∀ B1 pre x W1, W.heap.size ≤ B1 → J B1 pre W1 → pre <+: xs → (pre ++ [x]) <+: xs → YieldAt F (n - 1) P l (encs x) W1 fun e W' =>
      e = .returned (.bool true) ∧ J B1 (pre ++ [x]) W' ∧ (∀ k o, W.heap.size ≤ k → k < B1 → W1.heap[k]? = some o → W'.heap[k]? = some o)) →
    CallsIn F n P g (#[.func (.yield l) #[] #[]] ++ lb) W fun e W' => (∃ v, e = .returned v) ∧ ∃ B1, W.heap.size ≤ B1 ∧ J B1 xs W'

/-- A range over such an iterator. -/
theorem wpIn_rangeFunc_list {F : Fence} {n : Nat} {P : Program} {α : Type} {g : Operand} {ps : Array Tmp} {assign body : Code} {Q : Exit → Act → World → Prop} {a : Act} {w : World}
    (hro : F.round = none) (h1 : 1 ≤ n) {gf : Nat} {lb : Array Value} (hg : a.eval g = .func (.func gf) #[] lb) (hFg : F.fn gf) (eg : ∀ args w, (callFunc gf args).run P w = .ok (.enter gf args) w)
    {encs : α → Array Value} {xs : List α} (hseq : ∀ W, Chg (fun _ => False) w W → SeqList F (n - 1) P gf lb encs xs W) (hps : ∀ x, (encs x).size = ps.size)
    (I : Nat → List α → World → Prop)
    (hI : ∀ B1 pre W l o o', I B1 pre W → w.heap.size ≤ l → W.heap[l]? = some o → o.isCells = false → I B1 pre (W.putObj l o'))
    (h0 : ∀ W, Chg (fun _ => False) w W → I W.heap.size [] W) (a₁ : α → Act)
    (hassign : ∀ (l : Nat) (x : α) (W : World) (K : Act → World → Prop), K (a₁ x) W →
      assign.wpIn (F.inRound l) (n - 1 - 1) P (Exit.then K (fun _ _ _ => False)) { tmps := (ps.zip (encs x)).foldl (fun t (p, v) => t.setIfInBounds p v) a.tmps, defers := [] } W)
    (hbody : ∀ (l B1 : Nat) (pre : List α) (x : α) (W : World), w.heap.size ≤ B1 → I B1 pre W → (pre ++ [x]) <+: xs →
      body.wpIn (F.inRound l) (n - 1 - 1) P (fun e _ W' => e = .normal ∧ I B1 (pre ++ [x]) W' ∧ ∀ k o, w.heap.size ≤ k → k < B1 → W.heap[k]? = some o → W'.heap[k]? = some o) (a₁ x) W)
    (hdone : ∀ (D B1 : Nat) (W : World), w.heap.size ≤ D → I B1 xs W → W.heap[D]? = some (.deferred (some [])) → Q .normal { a with defers := { target := .collected D, args := #[] } :: a.defers } W) :
    (Code.rangeFunc g ps assign body).wpIn F n P Q a w := by
  refine wpIn_rangeFunc ?_
  intro fn hfn
  rw [hro]
  obtain ⟨rec, hrec⟩ : ∃ rec : LoopState → Option Code → Loop, rec = fun st pe => { state := st, pending := pe, fn, tmps := a.tmps, params := ps, assign, body, defers := w.heap.size } := ⟨_, rfl⟩
  obtain ⟨W1, hW1⟩ : ∃ W1, (w.alloc (.deferred (some []))).alloc (.loop (rec .ready none)) = W1 := ⟨_, rfl⟩
  have hc1 : Chg (fun _ => False) w W1 := by rw [← hW1]; exact (Chg.alloc _ _ _).allocR _
  have hs1 : W1.heap.size = w.heap.size + 1 + 1 := by rw [← hW1]; simp
  have hL1 : W1.heap[w.heap.size + 1]? = some (.loop (rec .ready none)) := by
    rw [← hW1]; have := World.alloc_heap_new (w.alloc (.deferred (some []))) (.loop (rec .ready none)); rwa [World.size_alloc] at this
  have hK1 : W1.heap[w.heap.size]? = some (.deferred (some [])) := by
    rw [← hW1]; exact (Below.heap_alloc _ _ _ (by simp)).trans (World.alloc_heap_new w _)
  refine ⟨w.heap.size + 1, [{ target := .collected w.heap.size, args := #[] }], W1, { target := .fn (.func gf) lb, args := #[.func (.yield (w.heap.size + 1)) #[] #[]] }, W1, gf,
    #[.func (.yield (w.heap.size + 1)) #[] #[]] ++ lb, W1, ?_, ?_, ?_, ?_, fun _ => h1, ?_⟩
  · rw [← hW1, hrec]; exact run_enterLoop_outer _ _ _ _ _
  · simp only [resolve, hg]
    simp [go_sem]
  · intro f' hf'; simp [Target.leads] at hf'; subst hf'; exact hFg
  · simp [invoke, go_sem, eg]
  · refine ((hseq W1 hc1) (w.heap.size + 1)
      (fun B1 pre W => I B1 pre W ∧ W.heap[w.heap.size + 1]? = some (.loop (rec .ready none)) ∧ W.heap[w.heap.size]? = some (.deferred (some [])))
      (fun W' hc => ⟨h0 W' (hc1.trans' hc), hc.keep hL1 (fun x => x), hc.keep hK1 (fun x => x)⟩) ?_).mono ?_
    · rintro B1 pre x W hB ⟨hi, hl, hk⟩ - hpre
      rw [hs1] at hB ⊢
      have hlt : w.heap.size + 1 < W.heap.size := (Array.getElem?_eq_some_iff.1 hl).1
      have hy := run_yield (P := P) (args := encs x) hl (by rw [hrec]; exact hps x)
      rw [hrec] at hy
      refine ⟨fn, _, assign, body, hy, roundIn_of_wpIn hfn (hassign _ x W _ ⟨_, run_beginRound hl (by rw [hrec]), ?_⟩)⟩
      have hl2 : (W.putObj (w.heap.size + 1) (.loop { rec .ready none with state := .busy })).heap[w.heap.size + 1]? = some (.loop { rec .ready none with state := .busy }) := World.putObj_heap_same hlt
      have hk2 : (W.putObj (w.heap.size + 1) (.loop { rec .ready none with state := .busy })).heap[w.heap.size]? = some (.deferred (some [])) := (World.putObj_heap_other (by omega)).trans hk
      refine wpIn_mono (hbody _ B1 pre x _ (by omega) (hI _ _ _ _ _ _ hi (by omega) hl rfl) hpre) ?_
      rintro e a3 W3 ⟨rfl, hi3, hkeep⟩
      have hl3 := hkeep _ _ (by omega) (by omega) hl2
      have hk3 := hkeep _ _ (by omega) (by omega) hk2
      have hr := run_endRound (P := P) none hl3
      have hlt3 := (Array.getElem?_eq_some_iff.1 hl3).1
      rw [hrec] at hr
      refine ⟨_, _, hr, rfl, ⟨hI _ _ _ _ _ _ hi3 (by omega) hl3 rfl, ?_, (World.putObj_heap_other (by omega)).trans hk3⟩, ?_⟩
      · rw [hrec]; exact World.putObj_heap_same hlt3
      · intro k o h2 h3 ho
        by_cases hkl : k = w.heap.size + 1
        · omega
        · rw [World.putObj_heap_other (by omega)]
          exact hkeep _ _ (by omega) h3 (by rw [World.putObj_heap_other (by omega)]; exact ho)
    · rintro e W2 ⟨⟨v, rfl⟩, B1, hB, hi, hl, hk⟩
      exact ⟨none, _, by have := run_endLoop (P := P) hl (by rw [hrec]; simp); rw [hrec] at this; exact this, hdone _ B1 _ (Nat.le_refl _) (hI _ _ _ _ _ _ hi (by omega) hl rfl) ((World.putObj_heap_other (by omega)).trans hk)⟩
end Go.Proofs.YthiiehanlconeaaDoor
namespace Go.Proofs.YthiiehanlconeaaDoor
open Go.RowKit
attribute [local go_sem] Oper.semAt_some
set_option linter.unusedVariables false
set_option linter.unusedSimpArgs false

def propRefs (p : Prp) : List Int := refsV [p.val]
def refsL (x : Obj) : List Int := ((((([x.proto] ++ x.props.flatMap propRefs) ++ refsV x.elems) ++ (if x.kind = 5 then [] else refsV x.data)) ++ [x.env]) ++ framesM x.saved)
def refsM (x : Obj) : List Int := nz (refsL x)
structure ObjOk (x : Obj) : Prop where
  props : x.props.length ≤ 1000
  elems : x.elems.length ≤ 1000
  data : x.data.length ≤ 1000
  saved : x.saved.length ≤ 1000
  each : ∀ f ∈ x.saved, FrmOk f
theorem framesM_len {l : List Frm} (h : ∀ f ∈ l, FrmOk f) : (framesM l).length ≤ l.length * 303 := Nat.le_trans (List.length_filter_le ..) (framesRefs_len l h)
theorem propRefs_len : ∀ (l : List Prp), (l.flatMap propRefs).length ≤ l.length
  | [] => Nat.le_refl _
  | p :: l => by
    have h1 := refsV_len [p.val]
    have h2 := propRefs_len l
    rw [List.flatMap_cons, List.length_append, List.length_cons]
    unfold propRefs at *
    simp only [List.length_cons, List.length_nil] at h1
    omega
/-- An object in memory, opened. -/
structure ObjC (w : World) (g o : Nat) (x : Obj) (vp ve vd vs : Value) : Prop where
  c0 : w.cell? ⟨g, o, none⟩ = some (.int .i64 x.kind)
  c1 : w.cell? ⟨g, o + 1, none⟩ = some (.int .i64 x.proto)
  c2 : w.cell? ⟨g, o + 2, none⟩ = some vp
  c3 : w.cell? ⟨g, o + 3, none⟩ = some ve
  c4 : w.cell? ⟨g, o + 4, none⟩ = some vd
  c6 : w.cell? ⟨g, o + 6, none⟩ = some (.int .i64 x.env)
  c9 : w.cell? ⟨g, o + 9, none⟩ = some vs
  rp : RowAt w 81 5 vp x.props.length (x.props.flatMap Prp.cells)
  re : RowAt w 38 4 ve x.elems.length (x.elems.flatMap Val.cells)
  rd : RowAt w 38 4 vd x.data.length (x.data.flatMap Val.cells)
  rs : ∃ F, (frmR.row 106).own w [vs] x.saved F
theorem ObjC.still {w w' : World} {g o : Nat} {x : Obj} {vp ve vd vs : Value} (h : ObjC w g o x vp ve vd vs) (hc : Chg (fun _ => False) w w') : ObjC w' g o x vp ve vd vs := by
  obtain ⟨F, hF⟩ := h.rs
  exact ⟨hc.cell h.c0, hc.cell h.c1, hc.cell h.c2, hc.cell h.c3, hc.cell h.c4, hc.cell h.c6, hc.cell h.c9, h.rp.chg hc (fun _ _ x => x), h.re.chg hc (fun _ _ x => x), h.rd.chg hc (fun _ _ x => x), F, (frmR.row 106).chg hF hc (fun _ _ x => x)⟩
theorem objOpen {w : World} {g o : Nat} {x : Obj} {F : List Nat} (H : Here objR w g o x F) : ∃ vp ve vd vs, ObjC w g o x vp ve vd vs := by
  obtain ⟨cs, ⟨vp, ve, vd, vs, F1, F2, F3, F4, rfl, h1, h2, h3, h4, -⟩, hc⟩ := H.cell
  obtain ⟨v1, e1, r1, -⟩ := row_flat.1 h1
  obtain rfl : vp = v1 := by simpa using e1
  obtain ⟨v2, e2, r2, -⟩ := row_flat.1 h2
  obtain rfl : ve = v2 := by simpa using e2
  obtain ⟨v3, e3, r3, -⟩ := row_flat.1 h3
  obtain rfl : vd = v3 := by simpa using e3
  exact ⟨vp, ve, vd, vs, hc 0 _ rfl, hc 1 _ rfl, hc 2 _ rfl, hc 3 _ rfl, hc 4 _ rfl, hc 6 _ rfl, hc 9 _ rfl, r1, r2, r3, F4, h4⟩

set_option maxHeartbeats 800000 in
set_option maxRecDepth 100000 in
theorem refs_any (w : World) (p : Option Addr) :
    Calls Tryd.prog 23 #[.pointer p] w fun e w' => e = .returned (.func (.func 39) #[] #[.pointer (some ⟨w.heap.size, 0, none⟩)]) ∧ w' = w.alloc (.cells #[.pointer p] 64) := by
  go_enter Tryd.func23, Tryd.ntmps23
  go_wp2_with fail
  go_ret
  exact ⟨rfl, rfl⟩

set_option maxHeartbeats 6400000 in
set_option maxRecDepth 100000 in
theorem refs1_seq (nf : Nat) (w : World) (g o bt : Nat) (x : Obj) (Fx : List Nat) (H : Here objR w g o x Fx) (hb : w.heap[bt]? = some (.cells #[.pointer (some ⟨g, o, none⟩)] 64 (0, 0))) (hok : ObjOk x) :
    SeqList Fence.wide nf Tryd.prog 39 #[.pointer (some ⟨bt, 0, none⟩)] (fun h : Int => #[.int .i64 h]) (refsM x) w := by
  intro l J hJ0 hY
  refine callsIn_wide.2 ?_
  obtain ⟨vp, ve, vd, vs, HC⟩ := objOpen H
  have hbc := cell_of_block (i := 0) hb rfl
  obtain ⟨ap, cp, rfl, -⟩ := HC.rp.slice
  obtain ⟨ae, ce, rfl, -⟩ := HC.re.slice
  obtain ⟨ad, cd, rfl, -⟩ := HC.rd.slice
  obtain ⟨as_, cs_, rfl, -⟩ : ∃ a c, vs = .slice a x.saved.length c ∧ True := by
    obtain ⟨F, hF⟩ := HC.rs
    obtain ⟨xs, Fs, hop⟩ := Rep.opened hF
    obtain ⟨a, c, e, -⟩ := hop.val
    exact ⟨a, c, e, trivial⟩
  have HH := Lib.hid HC
  have HBC := Lib.hid hbc
  have HOK := Lib.hid hok
  have HJ0 := Lib.hid hJ0
  have HYY := Lib.hid hY
  have c1 := HC.c1
  have hln : (x.props.length : Int) ≤ 9223372036854775807 := by have := hok.props; omega
  clear HC H hb hok hJ0 hY
  show Calls Tryd.prog 39 #[.func (.yield l) #[] #[], .pointer (some ⟨bt, 0, none⟩)] w _
  go_enter Tryd.func39, Tryd.ntmps39
  go_upto_region 1 with fail
  have HO0 : OutI w (w.alloc (.cells #[.int .i64 x.proto] 3)) (.slice (some ⟨w.heap.size, 0, none⟩) 1 1) [x.proto] :=
    ⟨RowAt.lit [.int .i64 x.proto] rfl (by simp [maxLen]), fun k hk => by simp [Value.ownBlock] at hk; omega, Chg.alloc _ _ _⟩
  clear c1 hbc
  generalize w.alloc (.cells #[.int .i64 x.proto] 3) = W0 at *
  generalize (some ⟨w.heap.size, 0, none⟩ : Option Addr) = a0 at *
  have hbc := HO0.chg.cell HBC.out
  have c2 := HO0.chg.cell HH.out.c2
  go_wp2_with fail
  go_loopw [3, 5, 18] (fun u3 _ u18 wr => ∃ (k : Nat) (a : Option Addr) (n c : Nat), k ≤ x.props.length ∧ u18 = .int .i64 k ∧ u3 = .slice a n c ∧ OutI w wr (.slice a n c) ([x.proto] ++ (x.props.take k).flatMap propRefs)) (fun _ _ u18 _ => x.props.length - (intOf u18).toNat)
  case atStart => exact ⟨0, a0, 1, 1, by omega, rfl, rfl, HO0⟩
  case round =>
    obtain ⟨k, a, n, c, hk, rfl, rfl, HO⟩ := hrel
    clear HO0 hbc c2
    by_cases hlt : k < x.props.length
    · have h0 : (0 : Int) ≤ (k : Int) := by omega
      have h1 : (k : Int) < (x.props.length : Int) := by omega
      have hr2 := HH.out.rp.chg HO.chg (fun _ _ x => x)
      obtain ⟨gp, off, cap', hv, -, -⟩ := hr2.addr (by omega)
      cases hv
      have hcell : ∀ j u, x.props[k].cells[j]? = some u → j < 5 → wr.cell? ⟨gp, off + k * 5 + j, none⟩ = some u := fun j u hu hj => by
        rw [Nat.add_assoc]
        exact hr2.cellAt (k * 5 + j) u (by rw [flat_get _ 5 Prp.len x.props k j hlt hj]; exact hu)
      have c0 := hcell 0 _ rfl (by omega)
      have c1 := hcell 1 _ rfl (by omega)
      have c2 := hcell 2 _ rfl (by omega)
      have c3 := hcell 3 _ rfl (by omega)
      have c4 := hcell 4 _ rfl (by omega)
      rw [Nat.add_zero] at c0
      have w64 : IntKind.i64.wrap ((k : Int) + 1) = ((k + 1 : Nat) : Int) := IntWalk.i64_in _ (by omega)
      have HT : Hid ([x.proto] ++ (x.props.take (k + 1)).flatMap propRefs = ([x.proto] ++ (x.props.take k).flatMap propRefs) ++ propRefs x.props[k]) := Lib.hid (by rw [List.take_succ_eq_append_getElem hlt, List.flatMap_append]; simp)
      have HLT := Lib.hid hlt
      have HNX := Lib.hid (show k + 1 ≤ x.props.length from hlt)
      have HAC : Hid (([x.proto] ++ (x.props.take k).flatMap propRefs).length ≤ 1001) := Lib.hid (by
        have h1 := propRefs_len (x.props.take k)
        have h2 : (x.props.take k).length ≤ x.props.length := List.length_take_le' ..
        have h3 := HOK.out.props
        simp only [List.length_append, List.length_cons, List.length_nil]
        omega)
      clear hcell hr2 hk
      generalize x.props[k] = p at *
      generalize [x.proto] ++ (x.props.take k).flatMap propRefs = acc0 at *
      clear hlt
      have HV := Lib.hid (values_any _ _ [p.val] (RowAt.lit2 (W := wr) (A := .cells #[.string p.key, .int .i64 p.vkind, .int .i64 p.vint, .string p.vstr, .int .i64 p.vref] 81) (e := 38) (n := 1) (size := 4) [.int .i64 p.vkind, .int .i64 p.vint, .string p.vstr, .int .i64 p.vref] rfl (by simp [maxLen])) (Few.of 1 (Nat.le_refl _) (by omega)))
      have HN := Lib.hid (Nat.le_trans (refsV_len [p.val]) (show 1 ≤ 1 from Nat.le_refl _))
      have HFW : Hid (Few (acc0.length + (refsV [p.val]).length)) := Lib.hid ⟨by have := HAC.out; have := HN.out; omega⟩
      have HOH := Lib.hid HO
      clear HO
      go_wp2_with (first
        | (go_at_call 33; refine HV.out.mono ?_; rintro e wq ⟨vq, rfl, HQ⟩; obtain ⟨aq, cq, rfl, -⟩ := HQ.val; have HO1 := (HOH.out.still ((Chg.alloc (fun _ => False) wr _).allocR _)).still HQ.chg; clear HV)
        | (at_builtin; refine wpList_out rfl (.tmp 22) (.tmp 26) rfl _ acc0 rfl HO1 _ (refsV [p.val]) rfl HQ.row HFW.out ?_; intro a1 n1 c1 W1 HO2 hch2 hold2))
      go_roundw
      case rel => exact ⟨k + 1, a1, n1, c1, HNX.out, rfl, rfl, by rw [HT.out]; exact HO2⟩
      case measure => have := HLT.out; simp [intOf, w64]; omega
    · have hk2 : k = x.props.length := by omega
      subst hk2
      rw [List.take_length] at HO
      have HAC : Hid (([x.proto] ++ x.props.flatMap propRefs).length ≤ 1001) := Lib.hid (by
        have h1 := propRefs_len x.props
        have h3 := HOK.out.props
        simp only [List.length_append, List.length_cons, List.length_nil]
        omega)
      generalize hacc : [x.proto] ++ x.props.flatMap propRefs = acc0 at *
      have HE0 := Lib.hid hacc
      clear hacc hlt hk
      have hbc := HO.chg.cell HBC.out
      have cc := HO.chg.cell HH.out.c3
      have HV := Lib.hid (values_any wr _ x.elems (HH.out.re.chg HO.chg (fun _ _ x => x)) (⟨by have := HOK.out.elems; omega⟩ : Few _))
      have HN : Hid ((refsV x.elems).length ≤ 1000) := Lib.hid (Nat.le_trans (refsV_len _) HOK.out.elems)
      have HB : Hid ((acc0 ++ refsV x.elems).length ≤ 1001 + 1000) := Lib.hid (by rw [List.length_append]; have := HAC.out; have := HN.out; omega)
      have HFW : Hid (Few ((acc0).length + (refsV x.elems).length)) := Lib.hid ⟨by have := HB.out; rw [List.length_append] at this; omega⟩
      have HOH := Lib.hid HO
      clear HO
      go_upto_region 7 with (first
        | (go_at_call 33; refine HV.out.mono ?_; rintro e wq ⟨vq, rfl, HQ⟩; obtain ⟨aq, cq, rfl, -⟩ := HQ.val; have HO1 := HOH.out.still HQ.chg; clear HV)
        | (at_builtin; refine wpList_out rfl (.tmp 29) (.tmp 34) rfl _ (acc0) rfl HO1 _ (refsV x.elems) rfl HQ.row HFW.out ?_; intro a6 n6 c6 W6 HO6 hch2 hold2))
      have HAC' := HB
      clear HAC HB HFW HN HO1 HQ hch2 hold2 cc hbc HOH
      have HAC := HAC'
      clear HAC'
      generalize he6 : acc0 ++ refsV x.elems = acc6 at *
      have HEe6 := Lib.hid he6
      clear he6
      have HO6h := Lib.hid HO6
      have hbc := HO6.chg.cell HBC.out
      have cc0 := HO6.chg.cell HH.out.c0
      clear HO6
      go_upto_if 40 with fail
      generalize hzb : (x.kind != 5) = zb at *
      have HZB := Lib.hid hzb
      clear hzb
      go_cut [3] from 41 to 47 (fun u3 wx => ∃ a n c, u3 = .slice a n c ∧ OutI w wx (.slice a n c) (acc6 ++ (if x.kind = 5 then [] else refsV x.data)))
      case first =>
        cases zb
        · have hz' : x.kind = 5 := by simpa using HZB.out
          have HZ := Lib.hid hz'
          clear hz'
          go_wp2_with fail
          go_meet
          exact ⟨_, _, _, rfl, by rw [if_pos HZ.out, List.append_nil]; exact HO6h.out⟩
        · have hz' : ¬ x.kind = 5 := by simpa using HZB.out
          have HZ := Lib.hid hz'
          clear hz'
          have cc := HO6h.out.chg.cell HH.out.c4
          have HV := Lib.hid (values_any W6 _ x.data (HH.out.rd.chg HO6h.out.chg (fun _ _ x => x)) (⟨by have := HOK.out.data; omega⟩ : Few _))
          have HFW : Hid (Few (acc6.length + (refsV x.data).length)) := Lib.hid ⟨by have := HAC.out; have := Nat.le_trans (refsV_len _) HOK.out.data; omega⟩
          go_wp2_with (first
            | (go_at_call 33; refine HV.out.mono ?_; rintro e wq ⟨vq, rfl, HQ⟩; obtain ⟨aq, cq, rfl, -⟩ := HQ.val; have HO1 := HO6h.out.still HQ.chg; clear HV)
            | (at_builtin; refine wpList_out rfl (.tmp 41) (.tmp 46) rfl _ acc6 rfl HO1 _ (refsV x.data) rfl HQ.row HFW.out ?_; intro a8 n8 c8 W8 HO8 hch2 hold2))
          go_meet
          exact ⟨_, _, _, rfl, by rw [if_neg HZ.out]; exact HO8⟩
      case rest =>
      obtain ⟨a8, n8, c8, rfl, HO8⟩ := hcut
      clear HO6h hbc cc0
      have HB : Hid ((acc6 ++ (if x.kind = 5 then [] else refsV x.data)).length ≤ 3001) := Lib.hid (by
        have h1 := HAC.out
        have h2 := Nat.le_trans (refsV_len _) HOK.out.data
        rw [List.length_append]
        split
        · simp; omega
        · omega)
      clear HAC
      have HAC := HB
      clear HB
      generalize he8 : acc6 ++ (if x.kind = 5 then [] else refsV x.data) = acc8 at *
      have HEe8 := Lib.hid he8
      clear he8
      have hbc := HO8.chg.cell HBC.out
      have cc := HO8.chg.cell HH.out.c6
      have HO8a := Lib.hid (HO8.alloc (.cells #[.int .i64 x.env] 3))
      have HFW : Hid (Few (acc8.length + 1)) := Lib.hid ⟨by have := HAC.out; omega⟩
      have HB : Hid ((acc8 ++ [x.env]).length ≤ 3002) := Lib.hid (by rw [List.length_append]; have := HAC.out; simp only [List.length_cons, List.length_nil]; omega)
      clear HO8
      go_upto_region 10 with (first
        | (at_builtin; refine wpList_out rfl (.tmp 48) (.tmp 53) rfl _ acc8 rfl HO8a.out _ [x.env] rfl (RowAt.lit [.int .i64 x.env] rfl (by simp [maxLen])) HFW.out ?_; intro a9 n9 c9 W9 HO9 hch2 hold2))
      clear HAC hbc cc HO8a HFW hch2 hold2
      have HAC := HB
      clear HB
      generalize he9 : acc8 ++ [x.env] = acc9 at *
      have HEe9 := Lib.hid he9
      clear he9
      have hbc := HO9.chg.cell HBC.out
      have cc := HO9.chg.cell HH.out.c9
      have HV := Lib.hid (frames_any W9 _ x.saved _ ((frmR.row 106).chg HH.out.rs.choose_spec HO9.chg (fun _ _ x => x)) HOK.out.saved HOK.out.each)
      have HN : Hid ((framesM x.saved).length ≤ 303000) := Lib.hid (Nat.le_trans (framesM_len HOK.out.each) (by have := HOK.out.saved; omega))
      have HB : Hid ((acc9 ++ framesM x.saved).length ≤ 3002 + 303000) := Lib.hid (by rw [List.length_append]; have := HAC.out; have := HN.out; omega)
      have HFW : Hid (Few ((acc9).length + (framesM x.saved).length)) := Lib.hid ⟨by have := HB.out; rw [List.length_append] at this; omega⟩
      have HOH := Lib.hid HO9
      clear HO9
      go_upto_region 11 with (first
        | (go_at_call 32; refine HV.out.mono ?_; rintro e wq ⟨vq, rfl, HQ⟩; obtain ⟨aq, cq, rfl, -⟩ := HQ.val; have HO1 := HOH.out.still HQ.chg; clear HV)
        | (at_builtin; refine wpList_out rfl (.tmp 55) (.tmp 60) rfl _ (acc9) rfl HO1 _ (framesM x.saved) rfl HQ.row HFW.out ?_; intro a10 n10 c10 W10 HO10 hch2 hold2))
      have HAC' := HB
      clear HAC HB HFW HN HO1 HQ hch2 hold2 cc hbc HOH
      have HAC := HAC'
      clear HAC'
      generalize heL : acc9 ++ framesM x.saved = L at *
      have HEeL := Lib.hid heL
      clear heL
      have HEQ : Hid (nz L = refsM x) := Lib.hid (by unfold refsM refsL; rw [← HEeL.out, ← HEe9.out, ← HEe8.out, ← HEe6.out, ← HE0.out])
      clear HEeL HEe9 HEe8 HEe6 HE0
      obtain ⟨aL, cL, hvL, -, -⟩ := HO10.val
      cases hvL
      have HJ1 := Lib.hid (HJ0.out W10 HO10.chg)
      have HOL := Lib.hid HO10
      have hlL : (L.length : Int) ≤ 9223372036854775807 := by have := HAC.out; omega
      clear HO10
      go_wp2_with fail
      go_loopw [7, 64] (fun _ u64 wr => ∃ k : Nat, k ≤ L.length ∧ u64 = .int .i64 k ∧ Hid (J W10.heap.size (nz (L.take k)) wr) ∧ Hid (RowAt wr 3 1 (.slice a10 L.length c10) L.length (intC L))) (fun _ u64 _ => L.length - (intOf u64).toNat)
      case atStart => exact ⟨0, by omega, rfl, HJ1, Lib.hid HOL.out.row⟩
      case round =>
        obtain ⟨k, hk, rfl, HJ, HRW⟩ := hrel
        by_cases hlt : k < L.length
        · have h0 : (0 : Int) ≤ (k : Int) := by omega
          have h1 : (k : Int) < (L.length : Int) := by omega
          obtain ⟨gL, oL, cL', hv, -, -⟩ := HRW.out.addr (by omega)
          cases hv
          have c0 := HRW.out.cellAt k (.int .i64 L[k]) (by simp [intC, hlt])
          have w64 : IntKind.i64.wrap ((k : Int) + 1) = ((k + 1 : Nat) : Int) := IntWalk.i64_in _ (by omega)
          have HT := Lib.hid (nz_take hlt)
          have HLT := Lib.hid hlt
          have HNX := Lib.hid (show k + 1 ≤ L.length from hlt)
          have HPF : Hid (nz (L.take (k + 1)) <+: refsM x) := Lib.hid (by rw [← HEQ.out]; exact (List.take_prefix _ _).filter _)
          have HPF0 : Hid (nz (L.take k) <+: refsM x) := Lib.hid (by rw [← HEQ.out]; exact (List.take_prefix _ _).filter _)
          clear hk
          generalize L[k] = z at *
          clear hlt
          go_upto_region 14 with fail
          go_cut [75] from 68 to 76 (fun u75 wx => u75 = .bool false ∧ Hid (J W10.heap.size (nz (L.take (k + 1))) wx) ∧ Hid (RowAt wx 3 1 (.slice (some ⟨gL, oL, none⟩) L.length c10) L.length (intC L)))
          case first =>
            cases hz : z != 0
            · have hz' : nz [z] = [] := by simp [nz, hz]
              rw [hz', List.append_nil] at HT
              clear hz'
              go_wp2_with fail
              go_meet
              exact ⟨rfl, by rw [HT.out]; exact HJ, HRW⟩
            · have hz' : nz [z] = [z] := by simp [nz, hz]
              rw [hz'] at HT
              rw [HT.out] at HPF
              clear hz'
              obtain ⟨fn, tmps, assign, body, hy, hR⟩ := HYY.out W10.heap.size (nz (L.take k)) z wr (HOL.out.chg.size) HJ.out HPF0.out HPF.out
              refine (wpIn_wide (n := nf) (P := Tryd.prog)).1 ?_
              gi_wp2
              refine ⟨fun h => (by cases h), ?_⟩
              refine hR.mono ?_
              rintro e Wr ⟨rfl, hJr, hkr⟩
              gi_wp2
              go_meet
              exact ⟨rfl, by rw [HT.out]; exact hJr, Lib.hid (HRW.out.keep fun kk o hv ho => hkr kk o (HOL.out.lo kk hv) (HOL.out.lt kk hv) ho)⟩
          case rest =>
            obtain ⟨rfl, HJ2, HRW2⟩ := hcut
            go_wp2_with fail
            go_roundw
            case rel => exact ⟨k + 1, HNX.out, rfl, HJ2, HRW2⟩
            case measure => have := HLT.out; simp [intOf, w64]; omega
        · have hk2 : k = L.length := by omega
          subst hk2
          rw [List.take_length, HEQ.out] at HJ
          have HSZ := Lib.hid HOL.out.chg.size
          clear hlt hk
          go_wp2_with fail
          go_end0
          exact ⟨⟨_, rfl⟩, _, HSZ.out, HJ.out⟩
end Go.Proofs.YthiiehanlconeaaDoor
namespace Go.Proofs.YthiiehanlconeaaDoor
open Go.RowKit
set_option linter.unusedVariables false
set_option linter.unusedSimpArgs false

def noVal : Val := ⟨0, 0, ⟨#[]⟩, 0⟩
def pairsM (d : List Val) : List (Val × Val) := (List.range (d.length / 2)).map fun q => (d.getD (2 * q) noVal, d.getD (2 * q + 1) noVal)
def wkV (hp : Hp) (K : List Nat) (p : Val × Val) : List Nat := if p.2.kind = 5 ∧ p.1.kind = 5 ∧ hasK hp K p.1.ref = true then addK hp K p.2.ref else K
def weakObj (hp : Hp) (K : List Nat) (x : Obj) : List Nat := if x.kind = 5 then (pairsM x.data).foldl (wkV hp) K else K
def weakS (hp : Hp) (K : List Nat) (s : Nat) : List Nat := weakObj hp K (hp.slots.getD s noSlt).obj
def weakM (hp : Hp) (K : List Nat) : List Nat := K.foldl (weakS hp) K
def InI (h : Int) : Prop := -9223372036854775808 ≤ h ∧ h ≤ 9223372036854775807
/-- Objects of a size that is walked, with handles that are numbers of the machine. -/
structure HpOk (hp : Hp) : Prop where
  few : hp.slots.length ≤ 100000
  obj : ∀ s (h : s < hp.slots.length), ObjOk hp.slots[s].obj
  refs : ∀ s (h : s < hp.slots.length), ∀ r ∈ refsM hp.slots[s].obj, InI r
  data : ∀ s (h : s < hp.slots.length), ∀ v ∈ hp.slots[s].obj.data, InI v.ref
theorem addK_ok {hp : Hp} {K : List Nat} (h : KOk hp K) (r : Int) : KOk hp (addK hp K r) := by
  unfold addK
  cases hs : slotOf hp r with
  | none => exact h
  | some i =>
    obtain ⟨h1, h2, -⟩ := slotOf_lt hs
    exact h.add h1 h2
theorem wkV_ok {hp : Hp} {K : List Nat} (h : KOk hp K) (p : Val × Val) : KOk hp (wkV hp K p) := by
  unfold wkV
  split
  · exact addK_ok h _
  · exact h
theorem slotOf_handle {hp : Hp} {s : Nat} (hs : s < hp.slots.length) (hu : (hp.slots.getD s noSlt).used = true) (hl : hp.slots.length ≤ 100000) : slotOf hp (handleM hp.base hp.stride (s : Nat)) = some s := by
  unfold slotOf
  rw [index_of_handle _ _ (by omega)]
  rw [Int.toNat_natCast, if_pos ⟨by omega, hs, hu⟩]
theorem hpObj {w : World} {b o : Nat} {hp : Hp} {F : List Nat} {a : Option Addr} {m cap i : Nat} (H : Here hpR w b o hp F) (hv : w.cell? ⟨b, o + 2, none⟩ = some (.slice a m cap)) (hi : i < hp.slots.length) :
    ∃ g off, a = some ⟨g, off, none⟩ ∧ objPtr (.slice a m cap) (some i) = some ⟨g, off + i * 11 + 1, none⟩ ∧ ∃ G, Here objR w g (off + i * 11 + 1) hp.slots[i].obj G := by
  obtain ⟨g, off, rfl, G, h1, -⟩ := hpSlot H hv hi
  obtain ⟨G2, h2, -⟩ := h1.field sltR_obj (by show 0 < 11; decide)
  exact ⟨g, off, rfl, rfl, G2, h2⟩
theorem pairs_take {d : List Val} {q : Nat} (h : q < d.length / 2) : (pairsM d).take (q + 1) = (pairsM d).take q ++ [(d.getD (2 * q) noVal, d.getD (2 * q + 1) noVal)] := by
  have hl : q < (pairsM d).length := by unfold pairsM; simpa using h
  rw [List.take_succ_eq_append_getElem hl]
  congr 1
  unfold pairsM
  simp
theorem pairs_all (d : List Val) : (pairsM d).take (d.length / 2) = pairsM d := List.take_of_length_le (by unfold pairsM; simp)
theorem weakS_take {hp : Hp} {K K0 : List Nat} {i : Nat} (h : i < K.length) : (K.take (i + 1)).foldl (weakS hp) K0 = weakS hp ((K.take i).foldl (weakS hp) K0) K[i] := by
  rw [List.take_succ_eq_append_getElem h, List.foldl_append]
  rfl

/-- The list as it was when the pass began. -/
def SnapV (w : World) (bm : Nat) (F : List Nat) (v : Value) (l : List Int) : Prop := ∃ p c, v = .slice p l.length c ∧ (l = [] ∨ ∃ g off, p = some ⟨g, off, none⟩ ∧ Snap w bm F g off l.length ∧ ∀ j (h : j < l.length), w.cell? ⟨g, off + j, none⟩ = some (.int .i64 l[j]))
theorem SnapV.step {w w' : World} {bm : Nat} {F F' : List Nat} {v : Value} {l : List Int} (h : SnapV w bm F v l) (hs : Snaps w w' bm F F') : SnapV w' bm F' v l := by
  obtain ⟨p, c, rfl, h | ⟨g, off, rfl, h1, h2⟩⟩ := h
  · exact ⟨p, c, rfl, .inl h⟩
  · obtain ⟨k1, k2⟩ := hs g off _ h1
    exact ⟨_, c, rfl, .inr ⟨g, off, rfl, k1, fun j hj => k2 j _ hj (h2 j hj)⟩⟩
theorem SnapV.start {w : World} {bm : Nat} {m : Mk} {F : List Nat} (H : Here mkR w bm 0 m F) {v : Value} (hv : w.cell? ⟨bm, 2, none⟩ = some v) : SnapV w bm F v m.list := by
  obtain ⟨cs, ⟨v1, v2, F1, F2, rfl, h1, h2, rfl⟩, hc⟩ := H.cell
  obtain ⟨x2, e2, r2, rfl⟩ := row_flat.1 h2
  obtain rfl : v2 = x2 := by simpa using e2
  have c2 := hc 2 _ rfl
  simp only [Nat.zero_add] at c2
  rw [hv] at c2
  cases c2
  obtain ⟨a, c, rfl, -⟩ := r2.slice
  refine ⟨a, c, rfl, ?_⟩
  by_cases hl : m.list = []
  · exact .inl hl
  · have hpos : 0 < m.list.length := List.length_pos_iff.2 hl
    obtain ⟨g, off, cap, e, -, -⟩ := r2.addr hpos
    cases e
    refine .inr ⟨g, off, rfl, .inl ⟨_, _, hv, Nat.le_refl _⟩, fun j hj => r2.cellAt j _ ?_⟩
    rw [flatMap_one]
    simp [hj]

set_option maxHeartbeats 6400000 in
set_option maxRecDepth 100000 in
theorem weak_any (w0 w : World) (bm bh : Nat) (hp : Hp) (Fh : List Nat) (K : List Nat) (F : List Nat) (HH : Here hpR w0 bh 0 hp Fh) (HO : Own mkR w0 w bm 0 (mkOf bh hp K) F) (HK : KOk hp K) (hok : HpOk hp) :
    Calls Tryd.prog 25 #[.pointer (some ⟨bm, 0, none⟩)] w fun e w' => e = .returned (.tuple #[]) ∧ ∃ F', Own mkR w0 w' bm 0 (mkOf bh hp (weakM hp K)) F' ∧ KOk hp (weakM hp K) ∧ Step w w' bm 0 3 F F' := by
  obtain ⟨m0, -, ⟨pl, cl, m2⟩⟩ := mkCells HO.here
  have hlk : (mkOf bh hp K).list = K.map fun i => handleM hp.base hp.stride (i : Nat) := rfl
  have hll : (mkOf bh hp K).list.length = K.length := by rw [hlk]; simp
  have hsv0 := SnapV.start HO.here m2
  rw [hll] at m2 hsv0
  have HL0 := Lib.hid (Nat.le_trans (good_len _ _ HK.good) hok.few)
  have hln : (K.length : Int) ≤ 9223372036854775807 := by have := HL0.out; omega
  have HHH := Lib.hid HH
  have HOK := Lib.hid hok
  have HKK := Lib.hid HK
  have HOO := Lib.hid HO
  have HSV := Lib.hid hsv0
  obtain ⟨-, -, ⟨ah, caph, ch2⟩, -⟩ := hpCells HH
  have HCH2 := Lib.hid ch2
  clear HH HO HK hok hsv0 hlk hll ch2
  go_enter Tryd.func25, Tryd.ntmps25
  go_wp2_with fail
  go_loopw [3, 4, 5, 6, 12] (fun _ _ _ _ u12 wr => ∃ (i : Nat) (F' : List Nat), i ≤ K.length ∧ u12 = .int .i64 i ∧ Hid (Own mkR w0 wr bm 0 (mkOf bh hp ((K.take i).foldl (weakS hp) K)) F') ∧ Hid (KOk hp ((K.take i).foldl (weakS hp) K)) ∧ Hid (SnapV wr bm F' (.slice pl K.length cl) (mkOf bh hp K).list) ∧ Hid (Step w wr bm 0 3 F F')) (fun _ _ _ _ u12 _ => K.length - (intOf u12).toNat)
  case atStart => exact ⟨0, F, by omega, rfl, HOO, HKK, HSV, Lib.hid (Step.refl _ _ _ _ _)⟩
  case round =>
    obtain ⟨i, F', hi, rfl, HOr, HKr, HSr, HTr⟩ := hrel
    clear m0 m2
    by_cases hlt : i < K.length
    · have h0 : (0 : Int) ≤ (i : Int) := by omega
      have h1 : (i : Int) < (K.length : Int) := by omega
      have hls : (mkOf bh hp K).list.length = K.length := by show (K.map _).length = _; simp
      obtain ⟨p, c, hv, hsv⟩ := HSr.out
      rw [hls] at hv
      cases hv
      obtain ⟨g, off, rfl, -, hc⟩ : ∃ g off, pl = some ⟨g, off, none⟩ ∧ True ∧ ∀ j (h : j < (mkOf bh hp K).list.length), wr.cell? ⟨g, off + j, none⟩ = some (.int .i64 (mkOf bh hp K).list[j]) := by
        rcases hsv with h | ⟨g, off, h1, -, h3⟩
        · rw [h] at hls
          simp at hls
          omega
        · exact ⟨g, off, h1, trivial, h3⟩
      have c0 := hc i (by rw [hls]; exact hlt)
      have hge : ∀ (h : i < (mkOf bh hp K).list.length), (mkOf bh hp K).list[i] = handleM hp.base hp.stride (K[i] : Nat) := fun h => by
        show (K.map fun i => handleM hp.base hp.stride (i : Nat))[i]'(by simpa using hlt) = _
        simp
      rw [hge] at c0
      have hKi := List.getElem_mem hlt
      have hs := HKK.out.good.lt _ hKi
      have hus := HKK.out.used _ hKi
      have hso := slotOf_handle hs hus HOK.out.few
      have hhi := handle_in hp.base hp.stride (i := K[i]) (by have := HOK.out.few; omega)
      have HT := Lib.hid (weakS_take (hp := hp) (K0 := K) hlt)
      have w64 : IntKind.i64.wrap ((i : Int) + 1) = ((i + 1 : Nat) : Int) := IntWalk.i64_in _ (by omega)
      have HLT := Lib.hid hlt
      have HNX := Lib.hid (show i + 1 ≤ K.length from hlt)
      generalize (K.take i).foldl (weakS hp) K = K1 at *
      generalize K[i] = s at *
      have hA := hat_any wr bh 0 hp Fh (handleM hp.base hp.stride (s : Nat)) (.slice ah hp.slots.length caph) (HHH.out.still HOr.out.chg) (HOr.out.chg.cell HCH2.out) (by omega)
      obtain ⟨gh, oh, rfl, hptr, Go_, hobj⟩ := hpObj HHH.out HCH2.out hs
      rw [hso, hptr] at hA
      obtain ⟨vp, ve, vd, vs, HOC⟩ := objOpen hobj
      have HOBC := Lib.hid HOC
      have HDK := Lib.hid (HOK.out.obj s hs)
      have HDD := Lib.hid (HOK.out.data s hs)
      have hws : weakS hp K1 s = weakObj hp K1 hp.slots[s].obj := by
        unfold weakS
        rw [List.getD_eq_getElem?_getD, List.getElem?_eq_getElem hs]
        rfl
      rw [hws] at HT
      have HA := Lib.hid hA
      obtain ⟨m0, -⟩ := mkCells HOr.out.here
      change wr.cell? ⟨bm, 0, none⟩ = some (.pointer (some ⟨bh, 0, none⟩)) at m0
      clear hc hsv hge hKi hus hso hhi hA hptr hobj hws HOC hlt hi
      generalize hp.slots[s].obj = x at *
      clear hs
      obtain ⟨ad, cd, rfl, -⟩ := HOBC.out.rd.slice
      go_upto_region 4 with (go_at_call 24; refine HA.out.mono ?_; rintro e wa ⟨rfl, hca⟩; have k0 := (HOr.out.chg.trans' hca).cell HOBC.out.c0; have HCA := Lib.hid hca; clear hca)
      clear m0 c0 h0 h1 HA
      have HO1 := Lib.hid (HOr.out.still HCA.out)
      have HS1 := Lib.hid (HSr.out.step (Snaps.still HCA.out))
      have HT1 := Lib.hid (HTr.out.trans (Step.ofChg HCA.out))
      clear HOr HSr
      by_cases hk5 : x.kind = 5
      · have hW : weakObj hp K1 x = (pairsM x.data).foldl (wkV hp) K1 := if_pos hk5
        rw [hW] at HT
        rw [hk5] at k0
        clear hW hk5
        go_upto_region 5 with fail
        clear k0 HCA
        go_wp2_with fail
        go_loopw [5, 6] (fun u5 _ wq => ∃ (q j : Nat) (F2 : List Nat), j = 2 * q ∧ q ≤ x.data.length / 2 ∧ u5 = .int .i64 j ∧ Hid (Own mkR w0 wq bm 0 (mkOf bh hp (((pairsM x.data).take q).foldl (wkV hp) K1)) F2) ∧ Hid (KOk hp (((pairsM x.data).take q).foldl (wkV hp) K1)) ∧ Hid (SnapV wq bm F2 (.slice (some ⟨g, off, none⟩) K.length cl) (mkOf bh hp K).list) ∧ Hid (Step w wq bm 0 3 F F2)) (fun u5 _ _ => x.data.length + 1 - (intOf u5).toNat)
        case atStart => exact ⟨0, 0, F', rfl, by omega, rfl, HO1, HKr, HS1, HT1⟩
        case round =>
          obtain ⟨q, j, F2, hj, hq, rfl, HOq, HKq, HSq, HTq⟩ := hrel
          have cd4 := HOq.out.chg.cell HOBC.out.c4
          have HDL := Lib.hid HDK.out.data
          have wj1 : IntKind.i64.wrap ((j : Int) + 1) = ((j + 1 : Nat) : Int) := IntWalk.i64_in _ (by have := HDL.out; omega)
          have wj2 : IntKind.i64.wrap ((j : Int) + 2) = ((j + 2 : Nat) : Int) := IntWalk.i64_in _ (by have := HDL.out; omega)
          by_cases hlt2 : q < x.data.length / 2
          · have hr := HOBC.out.rd.chg HOq.out.chg (fun _ _ x => x)
            obtain ⟨gd, od, cap', hv, -, -⟩ := hr.addr (by omega)
            cases hv
            obtain ⟨j1, hj1⟩ : ∃ j1, j1 = j + 1 := ⟨_, rfl⟩
            have hjl : j < x.data.length := by omega
            have hjl1 : j1 < x.data.length := by omega
            have HPT := Lib.hid (pairs_take hlt2)
            have g0 : x.data.getD (2 * q) noVal = x.data[j] := by rw [← hj, List.getD_eq_getElem?_getD, List.getElem?_eq_getElem hjl]; rfl
            have g1 : x.data.getD (2 * q + 1) noVal = x.data[j1] := by rw [← hj, ← hj1, List.getD_eq_getElem?_getD, List.getElem?_eq_getElem hjl1]; rfl
            rw [g0, g1] at HPT
            have HFD : Hid (((pairsM x.data).take (q + 1)).foldl (wkV hp) K1 = wkV hp (((pairsM x.data).take q).foldl (wkV hp) K1) (x.data[j], x.data[j1])) := Lib.hid (by rw [HPT.out, List.foldl_append]; rfl)
            have HR1 := Lib.hid (HDD.out _ (List.getElem_mem hjl))
            have HR2 := Lib.hid (HDD.out _ (List.getElem_mem hjl1))
            have hcell : ∀ jj (hjj : jj < x.data.length) t u, x.data[jj].cells[t]? = some u → t < 4 → wr.cell? ⟨gd, od + jj * 4 + t, none⟩ = some u := fun jj hjj t u hu ht => by
              rw [Nat.add_assoc]
              exact hr.cellAt (jj * 4 + t) u (by rw [flat_get _ 4 Val.len x.data jj t hjj ht]; exact hu)
            have a0 := hcell j hjl 0 _ rfl (by omega)
            have a3 := hcell j hjl 3 _ rfl (by omega)
            have b0 := hcell j1 hjl1 0 _ rfl (by omega)
            have b1 := hcell j1 hjl1 1 _ rfl (by omega)
            have b2 := hcell j1 hjl1 2 _ rfl (by omega)
            have b3 := hcell j1 hjl1 3 _ rfl (by omega)
            rw [Nat.add_zero] at a0 b0
            rw [← hj1] at wj1
            have i0 : (0 : Int) ≤ (j : Int) := by omega
            have i1 : (j : Int) < (x.data.length : Int) := by omega
            have i2 : (0 : Int) ≤ (j1 : Int) := by omega
            have i3 : (j1 : Int) < (x.data.length : Int) := by omega
            have HJ := Lib.hid hj
            have HJ1 := Lib.hid hj1
            have HQ := Lib.hid hlt2
            clear HPT g0 g1 hcell hr hq hj hj1
            generalize ((pairsM x.data).take q).foldl (wkV hp) K1 = Kq at *
            generalize x.data[j] = vk at *
            generalize x.data[j1] = vv at *
            clear hjl hjl1 hlt2
            go_upto_region 9 with fail
            have hb6 := alloc_block wr (.cells #[.int .i64 vv.kind, .int .i64 vv.int, .string vv.str, .int .i64 vv.ref] 38)
            have hc6 := Chg.alloc (fun _ => False) wr (.cells #[.int .i64 vv.kind, .int .i64 vv.int, .string vv.str, .int .i64 vv.ref] 38)
            have HO8 := Lib.hid (HOq.out.still hc6)
            have HS8 := Lib.hid (HSq.out.step (Snaps.still hc6))
            have HT8 := Lib.hid (HTq.out.trans (Step.ofChg hc6))
            have A0 := hc6.cell a0
            have A3 := hc6.cell a3
            have CD4 := hc6.cell cd4
            clear a0 a3 b0 b1 b2 b3 cd4 HOq HSq hc6
            generalize wr.alloc (.cells #[.int .i64 vv.kind, .int .i64 vv.int, .string vv.str, .int .i64 vv.ref] 38) = W8 at *
            generalize wr.heap.size = b6 at *
            have HB6 := Lib.hid hb6
            have t0 := cell_of_block (i := 0) hb6 rfl
            have t3 := cell_of_block (i := 3) hb6 rfl
            simp only [List.getElem_toArray, List.getElem_cons_zero, List.getElem_cons_succ] at t0 t3
            clear hb6
            generalize hcb : decide (vv.kind = 5 ∧ vk.kind = 5 ∧ hasK hp Kq vk.ref = true) = cb
            have HCB := Lib.hid hcb
            clear hcb
            go_cut [70] from 27 to 74 (fun u70 wx => u70 = .bool cb ∧ Hid (Chg (fun _ => False) W8 wx))
            case first =>
              cases h1 : vv.kind == 5
              · have hh : cb = false := by rw [← HCB.out]; simp at h1; simp [h1]
                go_wp2_with fail
                go_meet
                exact ⟨by rw [hh], Lib.hid (Chg.refl _ _)⟩
              · cases h2 : vk.kind == 5
                · have hh : cb = false := by rw [← HCB.out]; simp at h2; simp [h2]
                  go_wp2_with fail
                  go_meet
                  exact ⟨by rw [hh], Lib.hid (Chg.refl _ _)⟩
                · have hh : cb = hasK hp Kq vk.ref := by rw [← HCB.out]; simp at h1 h2; simp [h1, h2]
                  have HHS := Lib.hid (has_any w0 W8 bm bh hp Fh Kq vk.ref HHH.out ⟨⟨F2, HO8.out⟩, HKq.out⟩ HR1.out)
                  have HHHH := Lib.hid hh
                  clear hh
                  go_wp2_with (first | (go_at_call 31; refine HHS.out.mono ?_; rintro e wh ⟨rfl, hch⟩))
                  go_meet
                  exact ⟨by rw [HHHH.out], Lib.hid hch⟩
            case rest =>
            obtain ⟨rfl, HCX⟩ := hcut
            have t3' := HCX.out.cell t3
            clear t0 t3 A0 A3 CD4 HB6
            have HO9 := Lib.hid (HO8.out.still HCX.out)
            have HS9 := Lib.hid (HS8.out.step (Snaps.still HCX.out))
            have HT9 := Lib.hid (HT8.out.trans (Step.ofChg HCX.out))
            clear HO8 HS8 HCX
            cases cb
            · have HW : Hid (wkV hp Kq (vk, vv) = Kq) := Lib.hid (by have := HCB.out; simp only [decide_eq_false_iff_not] at this; unfold wkV; rw [if_neg this])
              go_wp2_with fail
              go_roundw
              case rel => exact ⟨q + 1, j + 2, F2, by have := HJ.out; omega, HQ.out, rfl, by rw [HFD.out, HW.out]; exact HO9, by rw [HFD.out, HW.out]; exact HKq, HS9, HT9⟩
              case measure => have := HJ.out; have := HQ.out; simp [intOf, wj2]; omega
            · have HW : Hid (wkV hp Kq (vk, vv) = addK hp Kq vv.ref) := Lib.hid (by have := HCB.out; simp only [decide_eq_true_eq] at this; unfold wkV; rw [if_pos this])
              have HAD := Lib.hid (madd_any w0 wc bm bh hp Fh Kq vv.ref HHH.out F2 HO9.out HKq.out HR2.out HOK.out.few)
              go_wp2_with (first | (go_at_call 22; refine HAD.out.mono ?_; rintro e wh ⟨rfl, F3, ho3, hk3, hst3, hs3⟩))
              go_roundw
              case rel => exact ⟨q + 1, j + 2, F3, by have := HJ.out; omega, HQ.out, rfl, by rw [HFD.out, HW.out]; exact Lib.hid ho3, by rw [HFD.out, HW.out]; exact Lib.hid hk3, Lib.hid (HS9.out.step hs3), Lib.hid (HT9.out.trans hst3)⟩
              case measure => have := HJ.out; have := HQ.out; simp [intOf, wj2]; omega
          · have hqe : q = x.data.length / 2 := by omega
            have HPA := Lib.hid (pairs_all x.data)
            rw [hqe] at HOq HKq
            rw [HPA.out, ← HT.out] at HOq HKq
            have i3 : ¬ ((j + 1 : Nat) : Int) < (x.data.length : Int) := by omega
            clear hqe hlt2 hq hj
            go_wp2_with fail
            go_roundw
            case rel => exact ⟨i + 1, F2, HNX.out, rfl, HOq, HKq, HSq, HTq⟩
            case measure => have := HLT.out; simp [intOf, w64]; omega
      · have hW : weakObj hp K1 x = K1 := if_neg hk5
        rw [hW] at HT
        rw [← HT.out] at HO1 HKr
        clear hW
        go_wp2_with fail
        go_roundw
        case rel => exact ⟨i + 1, F', HNX.out, rfl, HO1, HKr, HS1, HT1⟩
        case measure => have := HLT.out; simp [intOf, w64]; omega
    · have hie : i = K.length := by omega
      subst hie
      rw [List.take_length] at HOr HKr
      clear hlt hi
      go_wp2_with fail
      go_end0
      exact ⟨rfl, F', HOr.out, HKr.out, HTr.out⟩
end Go.Proofs.YthiiehanlconeaaDoor
namespace Go.Proofs.YthiiehanlconeaaDoor
open Go.RowKit
set_option linter.unusedVariables false
set_option linter.unusedSimpArgs false

def addI (l : List Int) (n count : Int) : List Int := if n < 0 ∨ count ≤ n ∨ n ∈ l then l else l ++ [n]

end Go.Proofs.YthiiehanlconeaaDoor
namespace Go.Proofs.YthiiehanlconeaaDoor
open Go.RowKit
set_option linter.unusedVariables false

/-- The value v is a slice that owns its block, and what is behind it. -/
structure Row {α : Type} (A : Rep α) (e : TypeId) (w : World) (v : Value) (l : List α) (F : List Nat) : Prop where
  own : (A.row e).own w [v] l F
  nd : F.Nodup
section
variable {α : Type} {A : Rep α} {e : TypeId} {w w1 w2 : World} {v v2 : Value} {l m : List α} {F : List Nat}
theorem Row.chg {S : Nat → Prop} (h : Row A e w v l F) (hc : Chg S w w1) (hn : ∀ k ∈ F, ¬ S k) : Row A e w1 v l F := ⟨(A.row e).chg h.own hc hn, h.nd⟩
theorem Row.still (h : Row A e w v l F) (hc : Chg (fun _ => False) w w1) : Row A e w1 v l F := h.chg hc (fun _ _ x => x)
theorem Row.lt (h : Row A e w v l F) : ∀ k ∈ F, k < w.heap.size := (A.row e).lt h.own
theorem Row.val (h : Row A e w v l F) : ∃ a cap, v = .slice a l.length cap ∧ l.length ≤ cap ∧ cap ≤ maxLen := by
  obtain ⟨xs, Fs, h1⟩ := Rep.opened h.own
  exact h1.val
theorem Row.nil (A : Rep α) (e : TypeId) (w : World) : Row A e w (.slice none 0 0) [] [] := ⟨⟨_, [], [], rfl, RowAt.nil _ _ _, .nil, rfl⟩, List.nodup_nil⟩
theorem Row.apart {γ : Type} {C : Rep γ} {b o n : Nat} {G G' : List Nat} (h : Row A e w v l F) (hs : Step w w1 b o n G G') (hb : b ∉ F) (hG : ∀ k ∈ F, k ∉ G) : Row A e w1 v l F :=
  h.chg hs.chg fun k hk x => x.elim (fun e => hb (e ▸ hk)) (hG k hk)
theorem each_take_length {A : Rep α} {w : World} (ys : List (List Value)) (zs : List α) (Gs : List (List Nat)) (hh : Each A w ys zs Gs) : ∀ m, (ys.take m).flatten.length = (ys.take m).length * A.n := by
  induction hh with
  | nil => intro m; simp
  | cons a1 _ ih =>
    intro m
    cases m with
    | zero => simp
    | succ m => rw [List.take_succ_cons, List.flatten_cons, List.length_append, ih m, A.len a1, List.length_cons, Nat.add_mul]; omega
theorem Row.elem (h : Row A e w v l F) (hl : 0 < l.length) :
    ∃ g off cap, v = .slice (some ⟨g, off, none⟩) l.length cap ∧ l.length ≤ cap ∧ cap ≤ maxLen ∧ g ∈ F ∧
      ∀ i (hi : i < l.length), ∃ G, Here A w g (off + i * A.n) l[i] G ∧ (∀ x ∈ G, x ∈ F) ∧ g ∉ G ∧
        ∀ w' y G', Here A w' g (off + i * A.n) y G' → Step w w' g (off + i * A.n) A.n G G' → ∃ F', Row A e w' v (l.set i y) F' ∧ Chg (fun k => k ∈ F) w w' ∧ ∀ x ∈ F', x ∈ F ∨ w.heap.size ≤ x := by
  obtain ⟨⟨v', xs, Fs, hv, hrow, hE, rfl⟩, hnd⟩ := h
  obtain rfl : v = v' := by simpa using hv
  obtain ⟨g, off, cap, rfl, k1, k2⟩ := hrow.addr hl
  rw [ownL_some] at hnd ⊢
  simp only [List.singleton_append, List.nodup_cons, List.mem_cons] at hnd ⊢
  refine ⟨g, off, cap, rfl, k1, k2, .inl rfl, ?_⟩
  intro i hi
  obtain ⟨x, G, xa, xb, Fa, Fb, q1, rfl, q3, rfl, q5⟩ := hE.at i hi
  obtain ⟨hflat, hr⟩ := hrow
  rcases hr with ⟨hv', _⟩ | ⟨g', off', cap', cur, hv', hg, _, _, hsz, hcur⟩
  · simp at hv'
  simp only [Value.slice.injEq, Option.some.injEq, Addr.mk.injEq, true_and] at hv'
  obtain ⟨⟨rfl, rfl, _⟩, rfl⟩ := hv'
  have hxl := A.len q1
  have hxa : xa.flatten.length = i * A.n := by
    have h1 := each_take_length _ _ _ hE i
    rw [← q3, List.take_left] at h1
    rw [h1, q3]
  have hmul : (i + 1) * A.n ≤ l.length * A.n := Nat.mul_le_mul_right _ hi
  have hmul2 : l.length * A.n ≤ cap * A.n := Nat.mul_le_mul_right _ k1
  rw [Nat.add_mul, Nat.one_mul] at hmul
  have hx : (cur.toList.drop (off + i * A.n)).take A.n = x := by
    have e1 := congrArg (fun z => (z.drop (i * A.n)).take A.n) hcur
    simp only [List.flatten_append, List.flatten_cons] at e1
    rw [← hxa, List.drop_left, hxa, ← hxl, List.take_left, hxl] at e1
    rw [← e1]
    refine List.ext_getElem? fun j => ?_
    by_cases hj : j < A.n
    · rw [take_drop_get hj, take_drop_get hj, take_drop_get (by omega)]; congr 1; omega
    · rw [List.getElem?_take, if_neg hj, List.getElem?_take, if_neg hj]
  have hmem : ∀ z, z ∈ G → z ∈ (Fa ++ G :: Fb).flatten := fun z hz => by simp [hz]
  have hG : G.Nodup ∧ (∀ z ∈ G, z ∉ Fa.flatten ++ Fb.flatten) ∧ (Fa.flatten ++ Fb.flatten).Nodup := by
    have := hnd.2
    simp only [List.flatten_append, List.flatten_cons, List.nodup_append, List.mem_append] at this ⊢
    exact ⟨this.2.1.1, fun z hz hh => hh.elim (fun y => this.2.2 z y z (.inl hz) rfl) (fun y => this.2.1.2.2 z hz z y rfl), this.1, this.2.1.2.1, fun a ha b hb => this.2.2 a ha b (.inr hb)⟩
  have hgG : g ∉ G := fun x => hnd.1 (hmem g x)
  refine ⟨G, ⟨⟨cur, e, hg, by rw [hx]; exact q1⟩, fun hh => hnd.1 (hmem _ hh), hG.1⟩, fun z hz => .inr (hmem z hz), hgG, ?_⟩
  intro w' y G' hy hs
  obtain ⟨cur', p1, p2, p3⟩ := hs.rest cur e hg
  obtain ⟨d, U, r1, r2⟩ := hy.box
  rw [p1] at r1
  simp only [Option.some.injEq, Obj.cells.injEq] at r1
  obtain ⟨rfl, rfl, _⟩ := r1
  have hgF : g ∉ Fa.flatten ++ Fb.flatten := fun hh => hnd.1 (by simp only [List.flatten_append, List.flatten_cons, List.mem_append] at hh ⊢; exact hh.imp id .inr)
  have hlt := hE.lt
  have hglt := lt_of_block hg
  have hkeep : ∀ k ∈ Fa.flatten ++ Fb.flatten, ∀ ob, w.heap[k]? = some ob → w'.heap[k]? = some ob := by
    intro k hk ob ho
    refine hs.chg.keep ho ?_
    rintro (x | x)
    · exact hgF (x ▸ hk)
    · exact hG.2.1 k x hk
  have hE' := q5 w' _ y G' hkeep r2
  have hG' : ∀ z ∈ G', z ∉ Fa.flatten ++ Fb.flatten := by
    intro z hz hh
    rcases hs.new z hz with x | x
    · exact hG.2.1 z x hh
    · have := hlt z (by simp only [List.flatten_append, List.flatten_cons, List.mem_append] at hh ⊢; exact hh.imp id .inr)
      omega
  refine ⟨g :: (Fa ++ G' :: Fb).flatten, ⟨⟨.slice (some ⟨g, off, none⟩) l.length cap, _, _, rfl, ?_, hE', by simp [ownL_some]⟩, ?_⟩, ?_, ?_⟩
  · refine ⟨by rw [hE'.flat], .inr ⟨g, off, cap, cur', by simp, p1, by simpa using k1, k2, by rw [p2]; exact hsz, ?_⟩⟩
    rw [List.length_set]
    have e1 := ext_rest (k := i * A.n) (m := A.n) (n := l.length * A.n) (o := off) p2 hmul (by omega) p3
    rw [e1, hcur]
    simp only [List.flatten_append, List.flatten_cons]
    rw [List.take_left' hxa, ← List.append_assoc, List.append_assoc]
    congr 1
    congr 1
    rw [← List.drop_drop, List.append_assoc, ← hxa, List.drop_left, ← hxl, List.drop_left]
  · simp only [List.nodup_cons]
    refine ⟨fun hh => ?_, ?_⟩
    · simp only [List.flatten_append, List.flatten_cons, List.mem_append] at hh hgF
      rcases hh with hh | hh | hh
      · exact hgF (.inl hh)
      · exact hy.nb hh
      · exact hgF (.inr hh)
    · have h3 := hG.2.2
      simp only [List.flatten_append, List.flatten_cons, List.nodup_append, List.mem_append] at h3 ⊢
      refine ⟨h3.1, ⟨hy.nd, h3.2.1, fun a ha b hb e => hG' a ha (List.mem_append_right _ (e ▸ hb))⟩, ?_⟩
      rintro a ha b (hb | hb) e
      · exact hG' b hb (List.mem_append_left _ (e ▸ ha))
      · exact h3.2.2 a ha b hb e
  · refine hs.chg.mono fun k hk x => ?_
    rcases x with x | x
    · exact .inl x
    · exact .inr (hmem k x)
  · intro k hk
    simp only [List.flatten_append, List.flatten_cons, List.mem_append, List.mem_cons] at hk ⊢
    rcases hk with hk | hk | hk | hk
    · exact .inl (.inl hk)
    · exact .inl (.inr (.inl hk))
    · rcases hs.new k hk with x | x
      · exact .inl (.inr (.inr (.inl x)))
      · exact .inr x
    · exact .inl (.inr (.inr (.inr hk)))
/-- The cells of an element. -/
theorem Row.cell (h : Row A e w v l F) {i : Nat} (hi : i < l.length) : ∃ g off cap, v = .slice (some ⟨g, off, none⟩) l.length cap ∧ ∃ cs G, A.own w cs l[i] G ∧ (∀ k ∈ G, k ∈ F) ∧ ∀ j u, cs[j]? = some u → w.cell? ⟨g, off + i * A.n + j, none⟩ = some u := by
  obtain ⟨g, off, cap, rfl, _, _, _, h1⟩ := h.elem (by omega)
  obtain ⟨G, h2, h3, _⟩ := h1 i hi
  obtain ⟨cs, h4, h5⟩ := h2.cell
  exact ⟨g, off, cap, rfl, cs, G, h4, h3, h5⟩
end
end Go.Proofs.YthiiehanlconeaaDoor
namespace Go.Proofs.YthiiehanlconeaaDoor
open Go.RowKit
set_option linter.unusedVariables false
set_option linter.unusedSimpArgs false

def natI (K : List Nat) : List Int := K.map fun i : Nat => (i : Int)
theorem natI_len (K : List Nat) : (natI K).length = K.length := List.length_map ..
def natR : Rep Nat := Rep.flat 1 (fun n : Nat => [.int .i64 (n : Int)]) (fun _ => rfl)
structure RObj where
  weak : Bool
  strong : List Nat
  keys : List Nat
  vals : List Nat
def RObj.Own (w : World) (cs : List Value) (s : RObj) (F : List Nat) : Prop :=
  ∃ v1 v2 v3 F1 F2 F3, cs = [.bool s.weak, v1, v2, v3] ∧ (natR.row 3).own w [v1] s.strong F1 ∧ (natR.row 3).own w [v2] s.keys F2 ∧ (natR.row 3).own w [v3] s.vals F3 ∧ F = F1 ++ F2 ++ F3
def robjR : Rep RObj where
  n := 4
  own := RObj.Own
  len := by rintro w cs s F ⟨v1, v2, v3, F1, F2, F3, rfl, h1, h2, h3, rfl⟩; rfl
  lt := by
    rintro w cs s F ⟨v1, v2, v3, F1, F2, F3, rfl, h1, h2, h3, rfl⟩ k hk
    simp only [List.mem_append] at hk
    rcases hk with (x | x) | x
    · exact (natR.row 3).lt h1 k x
    · exact (natR.row 3).lt h2 k x
    · exact (natR.row 3).lt h3 k x
  keep := by
    rintro w w2 cs s F ⟨v1, v2, v3, F1, F2, F3, rfl, h1, h2, h3, rfl⟩ hk
    exact ⟨v1, v2, v3, F1, F2, F3, rfl, (natR.row 3).keep h1 (fun k hm => hk k (by simp [hm])), (natR.row 3).keep h2 (fun k hm => hk k (by simp [hm])), (natR.row 3).keep h3 (fun k hm => hk k (by simp [hm])), rfl⟩
theorem robjR_weak : FieldOf robjR Rep.bool 0 (·.weak) (fun s y => { s with weak := y }) := by
  refine ⟨by show 0 + 1 ≤ 4; omega, ?_⟩
  rintro w cs s F ⟨v1, v2, v3, F1, F2, F3, rfl, h1, h2, h3, rfl⟩
  refine ⟨F1 ++ F2 ++ F3, [], [], by simp, ⟨rfl, rfl⟩, fun w2 ys y G hk hy => ?_⟩
  obtain ⟨rfl, rfl⟩ := hy
  exact ⟨v1, v2, v3, F1, F2, F3, rfl, (natR.row 3).keep h1 (fun k hm => hk k (by simp [hm])), (natR.row 3).keep h2 (fun k hm => hk k (by simp [hm])), (natR.row 3).keep h3 (fun k hm => hk k (by simp [hm])), by simp⟩
theorem robjR_strong : FieldOf robjR (natR.row 3) 1 (·.strong) (fun s y => { s with strong := y }) := by
  refine ⟨by show 1 + 1 ≤ 4; omega, ?_⟩
  rintro w cs s F ⟨v1, v2, v3, F1, F2, F3, rfl, h1, h2, h3, rfl⟩
  refine ⟨[], F1, F2 ++ F3, by simp, h1, fun w2 ys y G hk hy => ?_⟩
  obtain ⟨y0, rfl⟩ : ∃ y0, ys = [y0] := List.length_eq_one_iff.1 ((natR.row 3).len hy)
  exact ⟨y0, v2, v3, G, F2, F3, rfl, hy, (natR.row 3).keep h2 (fun k hm => hk k (by simp [hm])), (natR.row 3).keep h3 (fun k hm => hk k (by simp [hm])), by simp⟩
theorem robjR_keys : FieldOf robjR (natR.row 3) 2 (·.keys) (fun s y => { s with keys := y }) := by
  refine ⟨by show 2 + 1 ≤ 4; omega, ?_⟩
  rintro w cs s F ⟨v1, v2, v3, F1, F2, F3, rfl, h1, h2, h3, rfl⟩
  refine ⟨F1, F2, F3, by simp, h2, fun w2 ys y G hk hy => ?_⟩
  obtain ⟨y0, rfl⟩ : ∃ y0, ys = [y0] := List.length_eq_one_iff.1 ((natR.row 3).len hy)
  exact ⟨v1, y0, v3, F1, G, F3, rfl, (natR.row 3).keep h1 (fun k hm => hk k (by simp [hm])), hy, (natR.row 3).keep h3 (fun k hm => hk k (by simp [hm])), by simp⟩
theorem robjR_vals : FieldOf robjR (natR.row 3) 3 (·.vals) (fun s y => { s with vals := y }) := by
  refine ⟨by show 3 + 1 ≤ 4; omega, ?_⟩
  rintro w cs s F ⟨v1, v2, v3, F1, F2, F3, rfl, h1, h2, h3, rfl⟩
  refine ⟨F1 ++ F2, F3, [], by simp, h3, fun w2 ys y G hk hy => ?_⟩
  obtain ⟨y0, rfl⟩ : ∃ y0, ys = [y0] := List.length_eq_one_iff.1 ((natR.row 3).len hy)
  exact ⟨v1, v2, y0, F1, F2, G, rfl, (natR.row 3).keep h1 (fun k hm => hk k (by simp [hm])), (natR.row 3).keep h2 (fun k hm => hk k (by simp [hm])), hy, by simp⟩
/-- A row of small numbers, read. -/
theorem natRow {w : World} {v : Value} {l : List Nat} {F : List Nat} (h : (natR.row 3).own w [v] l F) : RowAt w 3 1 v l.length (intC (natI l)) ∧ F = ownL v := by
  obtain ⟨v', e, r, hF⟩ := row_flat.1 h
  obtain rfl : v = v' := by simpa using e
  rw [flatMap_one] at r
  refine ⟨?_, hF⟩
  have : (l.map fun n : Nat => Value.int .i64 (n : Int)) = intC (natI l) := by unfold intC natI; rw [List.map_map]; rfl
  rw [← this]; exact r
/-- An object of the reference, read. -/
structure RoC (w : World) (g o : Nat) (x : RObj) (v1 v2 v3 : Value) : Prop where
  c0 : w.cell? ⟨g, o, none⟩ = some (.bool x.weak)
  c1 : w.cell? ⟨g, o + 1, none⟩ = some v1
  c2 : w.cell? ⟨g, o + 2, none⟩ = some v2
  c3 : w.cell? ⟨g, o + 3, none⟩ = some v3
  r1 : RowAt w 3 1 v1 x.strong.length (intC (natI x.strong))
  r2 : RowAt w 3 1 v2 x.keys.length (intC (natI x.keys))
  r3 : RowAt w 3 1 v3 x.vals.length (intC (natI x.vals))
theorem RoC.still {w w' : World} {g o : Nat} {x : RObj} {v1 v2 v3 : Value} (h : RoC w g o x v1 v2 v3) (hc : Chg (fun _ => False) w w') : RoC w' g o x v1 v2 v3 :=
  ⟨hc.cell h.c0, hc.cell h.c1, hc.cell h.c2, hc.cell h.c3, h.r1.chg hc (fun _ _ x => x), h.r2.chg hc (fun _ _ x => x), h.r3.chg hc (fun _ _ x => x)⟩
theorem roOpen {w : World} {T : TypeId} {v : Value} {xs : List RObj} {F : List Nat} (h : Row robjR T w v xs F) {i : Nat} (hi : i < xs.length) :
    ∃ g off cap, v = .slice (some ⟨g, off, none⟩) xs.length cap ∧ ∃ v1 v2 v3, RoC w g (off + i * 4) xs[i] v1 v2 v3 := by
  obtain ⟨g, off, cap, rfl, cs, G, ⟨v1, v2, v3, F1, F2, F3, rfl, h1, h2, h3, -⟩, -, hc⟩ := h.cell hi
  have e : off + i * robjR.n = off + i * 4 := rfl
  rw [e] at hc
  exact ⟨g, off, cap, rfl, v1, v2, v3, hc 0 _ rfl, hc 1 _ rfl, hc 2 _ rfl, hc 3 _ rfl, (natRow h1).1, (natRow h2).1, (natRow h3).1⟩
/-- A row of rows of small numbers, read. -/
theorem mrOpen {w : World} {T : TypeId} {v : Value} {xs : List (List Nat)} {F : List Nat} (h : Row (natR.row 3) T w v xs F) {i : Nat} (hi : i < xs.length) :
    ∃ g off cap, v = .slice (some ⟨g, off, none⟩) xs.length cap ∧ ∃ v1, w.cell? ⟨g, off + i, none⟩ = some v1 ∧ RowAt w 3 1 v1 xs[i].length (intC (natI xs[i])) := by
  obtain ⟨g, off, cap, rfl, cs, G, ho, -, hc⟩ := h.cell hi
  have ho' := ho
  obtain ⟨v1, x, y, rfl, -⟩ := ho'
  have e : off + i * (natR.row 3).n = off + i := by show off + i * 1 = off + i; omega
  rw [e] at hc
  exact ⟨g, off, cap, rfl, v1, hc 0 _ rfl, (natRow ho).1⟩
theorem addI_nat {K : List Nat} {i n : Nat} (hi : i < n) : addI (natI K) (i : Int) (n : Int) = natI (addN K i) := by
  have hm : ((i : Int) ∈ natI K) ↔ i ∈ K := by
    unfold natI
    rw [List.mem_map]
    constructor
    · rintro ⟨a, ha, e⟩
      have : a = i := by omega
      subst this; exact ha
    · exact fun h => ⟨i, h, rfl⟩
  unfold addI addN
  by_cases h : i ∈ K
  · rw [if_pos (.inr (.inr (hm.2 h))), if_pos h]
  · rw [if_neg (by rintro (x | x | x); omega; omega; exact h (hm.1 x)), if_neg h]
    simp [natI]
/-- The objects of the reference: n of them, numbers below n. -/
structure XOk (n : Nat) (xs : List RObj) (more : List (List Nat)) : Prop where
  len : xs.length = n
  strong : ∀ x ∈ xs, ∀ y ∈ x.strong, y < n
  vals : ∀ x ∈ xs, ∀ y ∈ x.vals, y < n
  keys : ∀ x ∈ xs, x.keys.length = x.vals.length
  mores : ∀ l ∈ more, ∀ y ∈ l, y < n
  few : n ≤ 1000
  sl : ∀ x ∈ xs, x.strong.length ≤ 100000
  kl : ∀ x ∈ xs, x.keys.length ≤ 100000
  ml : ∀ l ∈ more, l.length ≤ 100000
  mn : more.length ≤ 100000
def noR : RObj := ⟨false, [], [], []⟩
def gR (xs : List RObj) (more : List (List Nat)) (j : Nat) : List Nat := (xs.getD j noR).strong ++ more.getD j []
def psR (xs : List RObj) (j : Nat) : List (Nat × Nat) := if (xs.getD j noR).weak then (xs.getD j noR).keys.zip (xs.getD j noR).vals else []
theorem addAll_append (K a b : List Nat) : addAll K (a ++ b) = addAll (addAll K a) b := by unfold addAll; rw [List.foldl_append]
theorem addAll_snoc (K a : List Nat) (b : Nat) : addAll K (a ++ [b]) = addN (addAll K a) b := by unfold addAll; rw [List.foldl_append]; rfl
theorem getD_get {α : Type} {l : List α} {d : α} {i : Nat} (h : i < l.length) : l.getD i d = l[i] := by rw [List.getD_eq_getElem?_getD, List.getElem?_eq_getElem h]; rfl
theorem XOk.g {n : Nat} {xs : List RObj} {more : List (List Nat)} (h : XOk n xs more) : ∀ o, o < n → ∀ y ∈ gR xs more o, y < n := by
  intro o ho y hy
  unfold gR at hy
  rcases List.mem_append.1 hy with x | x
  · have hl : o < xs.length := by rw [h.len]; exact ho
    rw [getD_get hl] at x
    exact h.strong _ (List.getElem_mem hl) y x
  · by_cases hl : o < more.length
    · rw [getD_get hl] at x
      exact h.mores _ (List.getElem_mem hl) y x
    · rw [List.getD_eq_getElem?_getD, List.getElem?_eq_none (by omega)] at x
      simp at x
theorem XOk.ps {n : Nat} {xs : List RObj} {more : List (List Nat)} (h : XOk n xs more) : ∀ o, o < n → ∀ p ∈ psR xs o, p.2 < n := by
  intro o ho p hp
  unfold psR at hp
  have hl : o < xs.length := by rw [h.len]; exact ho
  rw [getD_get hl] at hp
  split at hp
  · obtain ⟨a, b⟩ := p
    exact h.vals _ (List.getElem_mem hl) b (List.of_mem_zip hp).2
  · cases hp
end Go.Proofs.YthiiehanlconeaaDoor
