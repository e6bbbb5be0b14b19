/-
  Memory by blocks: what a call may have changed (Chg); a slice that owns its block (RowAt); one law for append onto it.
-/
import Derived.WalkKit
import Derived.WalkSpells
import Derived.Deep.AppendSrc
import Derived.Deep.Quiet
import Derived.Deep.RegionHeld3
namespace Go.Proofs.YthiiehanlconeaaDoor
set_option linter.unusedVariables false
open Go.RowKit

/-- What has changed: at most the blocks of S, and new ones. -/
structure Chg (S : Nat → Prop) (w w' : World) : Prop where
  os : w'.os = w.os
  tape : w'.tape = w.tape
  output : w'.output = w.output
  size : w.heap.size ≤ w'.heap.size
  block : ∀ k, k < w.heap.size → ¬ S k → w'.heap[k]? = w.heap[k]?
theorem Chg.refl (S : Nat → Prop) (w : World) : Chg S w w := ⟨rfl, rfl, rfl, Nat.le_refl _, fun _ _ _ => rfl⟩
theorem Chg.trans {S S' S'' : Nat → Prop} {a b c : World} (h : Chg S a b) (k : Chg S' b c) (h1 : ∀ i, i < a.heap.size → S i → S'' i) (h2 : ∀ i, i < a.heap.size → S' i → S'' i) : Chg S'' a c :=
  ⟨k.os.trans h.os, k.tape.trans h.tape, k.output.trans h.output, Nat.le_trans h.size k.size,
    fun i hi hn => (k.block i (Nat.lt_of_lt_of_le hi h.size) (fun x => hn (h2 i hi x))).trans (h.block i hi (fun x => hn (h1 i hi x)))⟩
theorem Chg.trans' {S : Nat → Prop} {a b c : World} (h : Chg S a b) (k : Chg S b c) : Chg S a c := h.trans k (fun _ _ x => x) (fun _ _ x => x)
theorem Chg.mono {S S' : Nat → Prop} {a b : World} (h : Chg S a b) (h1 : ∀ i, i < a.heap.size → S i → S' i) : Chg S' a b :=
  ⟨h.os, h.tape, h.output, h.size, fun i hi hn => h.block i hi (fun x => hn (h1 i hi x))⟩
theorem Chg.drewR {S : Nat → Prop} {a b : World} (h : Chg S a b) : Chg S a b.drew := ⟨h.os, h.tape, h.output, h.size, h.block⟩
theorem Chg.drewNR {S : Nat → Prop} {a b : World} (h : Chg S a b) (n : Nat) : Chg S a (b.drewN n) := ⟨h.os, h.tape, h.output, h.size, h.block⟩
theorem Chg.ofDrew {S : Nat → Prop} {a b : World} (h : Chg S a.drew b) : Chg S a b := ⟨h.os, h.tape, h.output, h.size, h.block⟩
theorem Chg.ofDrewN {S : Nat → Prop} {a b : World} {n : Nat} (h : Chg S (a.drewN n) b) : Chg S a b := ⟨h.os, h.tape, h.output, h.size, h.block⟩
theorem Chg.drewN (S : Nat → Prop) (w : World) (n : Nat) : Chg S w (w.drewN n) := (Chg.refl S w).drewNR n
theorem Chg.alloc (S : Nat → Prop) (w : World) (o : Obj) : Chg S w (w.alloc o) :=
  ⟨rfl, rfl, rfl, by simp, fun k hk _ => Below.heap_alloc _ _ _ hk⟩
theorem Chg.allocR {S : Nat → Prop} {a b : World} (h : Chg S a b) (o : Obj) : Chg S a (b.alloc o) :=
  h.trans (Chg.alloc S b o) (fun _ _ x => x) (fun _ _ x => x)
theorem Chg.setCell (w : World) (p : Addr) (u : Value) : Chg (· = p.block) w (w.setCell p u) :=
  ⟨rfl, rfl, rfl, by simp [World.setCell], fun k _ hn => Below.heap_setCell _ _ _ _ hn⟩
theorem Chg.setCellR {S : Nat → Prop} {a b : World} (h : Chg S a b) (p : Addr) (u : Value) (hp : p.block < a.heap.size → S p.block) : Chg S a (b.setCell p u) :=
  h.trans (Chg.setCell b p u) (fun _ _ x => x) (fun i hi x => by subst x; exact hp hi)
theorem Chg.grown {w w' : World} {row : Option Nat} (h : w.grownBy w' row) : Chg (fun k => row = some k) w w' :=
  ⟨h.os, h.tape, h.output, h.size, fun k hk hn => h.block k hk (fun e => hn e.symm)⟩
theorem Chg.below {S : Nat → Prop} {B : Nat} {w w' : World} (h : Chg S w w') (hB : B ≤ w.heap.size) (hS : ∀ k, S k → B ≤ k) : Below B w w' :=
  ⟨h.os, h.tape, h.output, h.size, fun k hk => h.block k (by omega) (fun x => by have := hS k x; omega)⟩
theorem Chg.ofBelow {B : Nat} {w w' : World} (h : Below B w w') : Chg (fun k => B ≤ k) w w' :=
  ⟨h.os, h.tape, h.output, h.size, fun k _ hn => h.block k (by omega)⟩

theorem lt_of_block {w : World} {k : Nat} {o : Obj} (hk : w.heap[k]? = some o) : k < w.heap.size := (Array.getElem?_eq_some_iff.1 hk).1
/-- A block that a change left alone. -/
theorem Chg.keep {S : Nat → Prop} {w w' : World} (h : Chg S w w') {k : Nat} {o : Obj} (hk : w.heap[k]? = some o) (hn : ¬ S k) : w'.heap[k]? = some o := by
  rw [h.block k (lt_of_block hk) hn]; exact hk
theorem Chg.cell {w w' : World} (h : Chg (fun _ => False) w w') {a : Addr} {v : Value} (hc : w.cell? a = some v) : w'.cell? a = some v := by
  have hb : a.block < w.heap.size := World.block_lt_of_cell? w _ hc
  rw [World.cell?_of_block (h.block a.block hb (fun x => x))]; exact hc
theorem cell_of_block {w : World} {b T : Nat} {c : Array Value} {f : Nat × Nat} {i : Nat} {v : Value} (h : w.heap[b]? = some (.cells c T f)) (hc : c[i]? = some v) : w.cell? ⟨b, i, none⟩ = some v := by
  simp [World.cell?, h, hc]
theorem frozen_of_block {w : World} {b T : Nat} {c : Array Value} {i : Nat} (h : w.heap[b]? = some (.cells c T (0, 0))) : w.frozen? ⟨b, i, none⟩ = false := by
  simp [World.frozen?, h]
theorem setCell_block {w : World} {b T i : Nat} {c : Array Value} {f : Nat × Nat} (v : Value) (h : w.heap[b]? = some (.cells c T f)) :
    (w.setCell ⟨b, i, none⟩ v).heap[b]? = some (.cells (c.setIfInBounds i v) T f) := by
  simp [World.setCell, Array.getElem?_modify, h]
theorem setCell_other {w : World} {b i k : Nat} {o : Obj} (v : Value) (h : w.heap[k]? = some o) (hn : k ≠ b) : (w.setCell ⟨b, i, none⟩ v).heap[k]? = some o := by
  rw [Below.heap_setCell _ _ _ _ hn]; exact h
theorem alloc_block (w : World) (o : Obj) : (w.alloc o).heap[w.heap.size]? = some o := heap_alloc_new w o
theorem alloc_old {w : World} {b : Nat} {o : Obj} (p : Obj) (h : w.heap[b]? = some o) : (w.alloc p).heap[b]? = some o := by
  rw [Below.heap_alloc _ _ _ (lt_of_block h)]; exact h
theorem drew_block {w : World} {b : Nat} {o : Obj} (h : w.heap[b]? = some o) : w.drew.heap[b]? = some o := h
theorem drewN_block {w : World} {b : Nat} {o : Obj} (n : Nat) (h : w.heap[b]? = some o) : (w.drewN n).heap[b]? = some o := h

/-- Cells written from an offset on. -/
def putAt (c : Array Value) : Nat → List Value → Array Value
  | _, [] => c
  | o, v :: vs => putAt (c.setIfInBounds o v) (o + 1) vs
theorem putAt_size (vs : List Value) : ∀ (c : Array Value) (o : Nat), (putAt c o vs).size = c.size := by
  induction vs with
  | nil => intro c o; rfl
  | cons v vs ih => intro c o; rw [putAt, ih]; simp
theorem putAt_toList (vs : List Value) : ∀ (c : Array Value) (o : Nat), o + vs.length ≤ c.size → (putAt c o vs).toList = c.toList.take o ++ vs ++ c.toList.drop (o + vs.length) := by
  induction vs with
  | nil => intro c o _; simp [putAt]
  | cons v vs ih =>
    intro c o h
    simp only [List.length_cons] at h
    rw [putAt, ih _ _ (by simp; omega)]
    have h1 : (c.setIfInBounds o v).toList = c.toList.set o v := by simp
    rw [h1]
    have h2 : (c.toList.set o v).take (o + 1) = c.toList.take o ++ [v] := by
      rw [List.take_succ_eq_append_getElem (by simp; omega)]
      simp [List.take_set_of_le]
    have h3 : (c.toList.set o v).drop (o + 1 + vs.length) = c.toList.drop (o + 1 + vs.length) := by
      rw [List.drop_set_of_lt (by omega)]
    rw [h2, h3]
    simp [Nat.add_comm, Nat.add_left_comm]
theorem setCells_block {b T : Nat} {f : Nat × Nat} (vs : List Value) : ∀ {w : World} {c : Array Value} (o : Nat), w.heap[b]? = some (.cells c T f) →
    (w.setCells b o vs).heap[b]? = some (.cells (putAt c o vs) T f) := by
  induction vs with
  | nil => intro w c o h; exact h
  | cons v vs ih => intro w c o h; exact ih (o + 1) (setCell_block v h)
theorem Chg.setCells {b : Nat} (vs : List Value) : ∀ (w : World) (o : Nat), Chg (· = b) w (w.setCells b o vs) := by
  induction vs with
  | nil => intro w o; exact .refl _ _
  | cons v vs ih => intro w o; exact (Chg.setCell w ⟨b, o, none⟩ v).trans' (ih _ _)

/-- The slice v has n elements (size cells each), the cells xs, and owns its block. -/
def RowAt (w : World) (e size : Nat) (v : Value) (n : Nat) (xs : List Value) : Prop :=
  xs.length = n * size ∧
  ((v = .slice none 0 0 ∧ n = 0) ∨
   ∃ g off cap cur, v = .slice (some ⟨g, off, none⟩) n cap ∧ w.heap[g]? = some (.cells cur e (0, 0)) ∧ n ≤ cap ∧ cap ≤ maxLen ∧ off + cap * size ≤ cur.size ∧
     (cur.toList.drop off).take (n * size) = xs)
section
variable {w w' : World} {e size : Nat} {v : Value} {n : Nat} {xs : List Value}
theorem RowAt.nil (w : World) (e size : Nat) : RowAt w e size (.slice none 0 0) 0 [] := ⟨by simp, .inl ⟨rfl, rfl⟩⟩
theorem RowAt.keep (h : RowAt w e size v n xs) (hk : ∀ k o, v.ownBlock = some k → w.heap[k]? = some o → w'.heap[k]? = some o) : RowAt w' e size v n xs := by
  refine ⟨h.1, ?_⟩
  rcases h.2 with hn | ⟨g, off, cap, cur, rfl, hg, rest⟩
  · exact .inl hn
  · exact .inr ⟨g, off, cap, cur, rfl, hk g _ rfl hg, rest⟩
theorem RowAt.chg {S : Nat → Prop} (h : RowAt w e size v n xs) (hc : Chg S w w') (hn : ∀ k, v.ownBlock = some k → ¬ S k) : RowAt w' e size v n xs :=
  h.keep fun k _ hk ho => hc.keep ho (hn k hk)
theorem RowAt.alloc (h : RowAt w e size v n xs) (o : Obj) : RowAt (w.alloc o) e size v n xs := h.keep fun _ _ _ ho => alloc_old o ho
theorem RowAt.drew (h : RowAt w e size v n xs) : RowAt w.drew e size v n xs := h.keep fun _ _ _ ho => ho
theorem RowAt.drewN (h : RowAt w e size v n xs) (m : Nat) : RowAt (w.drewN m) e size v n xs := h.keep fun _ _ _ ho => ho
theorem RowAt.lt (h : RowAt w e size v n xs) : ∀ k, v.ownBlock = some k → k < w.heap.size := by
  intro k hk
  rcases h.2 with ⟨rfl, _⟩ | ⟨g, off, cap, cur, rfl, hg, _⟩
  · simp [Value.ownBlock] at hk
  · simp [Value.ownBlock] at hk; subst hk; exact lt_of_block hg
theorem RowAt.slice (h : RowAt w e size v n xs) : ∃ a cap, v = .slice a n cap ∧ n ≤ cap ∧ cap ≤ maxLen := by
  rcases h.2 with ⟨rfl, rfl⟩ | ⟨g, off, cap, cur, rfl, hg, h1, h2, _⟩
  · exact ⟨none, 0, rfl, Nat.le_refl _, by simp⟩
  · exact ⟨_, _, rfl, h1, h2⟩
theorem RowAt.cells (h : RowAt w e size v n xs) {a : Addr} {m cap : Nat} (hv : v = .slice (some a) m cap) :
    ∀ j u, xs[j]? = some u → w.cell? (a.add j) = some u := by
  intro j u hu
  rcases h.2 with ⟨rfl, _⟩ | ⟨g, off, cap', cur, rfl, hg, _, _, _, ht⟩
  · simp at hv
  · simp only [Value.slice.injEq, Option.some.injEq] at hv
    obtain ⟨rfl, _, _⟩ := hv
    have hadd : (⟨g, off, none⟩ : Addr).add j = ⟨g, off + j, none⟩ := by unfold Addr.add; split <;> simp_all
    rw [hadd]
    refine cell_of_block hg ?_
    rw [← ht, List.getElem?_take] at hu
    split at hu
    · simpa using hu
    · cases hu
theorem RowAt.cellAt {g off m cap : Nat} (h : RowAt w e size (.slice (some ⟨g, off, none⟩) m cap) n xs) (j : Nat) (u : Value) (hu : xs[j]? = some u) : w.cell? ⟨g, off + j, none⟩ = some u := by
  have := h.cells rfl j u hu
  rwa [show (⟨g, off, none⟩ : Addr).add j = ⟨g, off + j, none⟩ from by unfold Addr.add; split <;> simp_all] at this
end

/-- append onto an owned row, whatever is appended. -/
theorem run_append_row {P : Program} (w : World) (t tx ty e : TypeId) (i : TypeInfo) (z : Value) (size bytes : Nat) (ht : P.underlying t = some (.slice e)) (hi : P.info? e = some i) (hz : i.zero = some z)
    (hsize : i.size = size) (hby : i.bytes = bytes) (hzs : z.cells.size = size) (hsz : 0 < size)
    (v : Value) (n : Nat) (xs : List Value) (hown : RowAt w e size v n xs) (x : Value) (m : Nat) (news : List Value) (hs : Src P size tx x m news w)
    (h63 : n + m ≤ maxLen) (hbytes : (n + m) * bytes ≤ 140737488355328) :
    ∃ v' w', (Builtin.append_ #[t, tx] ty #[v, x]).run P w = .ok v' w' ∧ RowAt w' e size v' (n + m) (xs ++ news) ∧ Chg (fun k => v.ownBlock = some k) w w' ∧
      (∀ k, v'.ownBlock = some k → v.ownBlock = some k ∨ w.heap.size ≤ k) := by
  subst hsize
  subst hby
  have hlen : (xs ++ news).length = (n + m) * i.size := by rw [List.length_append, hown.1, hs.newsLen, Nat.add_mul]
  have grow : ∀ (base : Option Addr) (cap : Nat), v = .slice base n cap → cap < n + m → (Builtin.firstCells i.size n (.slice base n cap)).run P w.drew = .ok xs.toArray w.drew →
      ∃ v' w', (Builtin.append_ #[t, tx] ty #[v, x]).run P w = .ok v' w' ∧ RowAt w' e i.size v' (n + m) (xs ++ news) ∧ Chg (fun k => v.ownBlock = some k) w w' ∧
      (∀ k, v'.ownBlock = some k → v.ownBlock = some k ∨ w.heap.size ≤ k) := by
    intro base cap hv hcap hold
    have hr := run_append_grow_src (P := P) w t tx ty e i z ht hi hz base n cap xs hold x m news hs hcap (by simp only [maxLen] at h63; omega) (growslice_fits hcap hbytes)
    have hge := grownCap_ge w (n + m) cap e
    have hcm : grownCap w (n + m) cap e ≤ maxLen := grownCap_le_maxLen w (n + m) cap e h63
    refine ⟨_, _, by rw [hv]; exact hr, ⟨hlen, .inr ⟨w.heap.size, 0, _, _, rfl, heap_alloc_new w.drew _, hge, hcm, ?_, ?_⟩⟩, ?_, ?_⟩
    · simp only [Array.size_append, List.size_toArray, size_zeroCells, hzs, hlen, ← Nat.add_mul]
      rw [show n + m + (grownCap w (n + m) cap e - (n + m)) = grownCap w (n + m) cap e from by omega]
      omega
    · simp only [Array.toList_append, List.drop_zero]
      rw [← hlen]
      exact List.take_left
    · exact ((Chg.refl _ w).drewR).allocR _
    · intro k hk
      simp only [Value.ownBlock, Option.some.injEq] at hk
      exact .inr (by omega)
  rcases hown.2 with ⟨rfl, rfl⟩ | ⟨g, off, cap, cur, rfl, hg, hnc, hcm, hcs, htake⟩
  · have hx : xs = [] := List.eq_nil_of_length_eq_zero (by simpa using hown.1)
    subst hx
    by_cases hm : m = 0
    · subst hm
      have hn : news = [] := List.eq_nil_of_length_eq_zero (by simpa using hs.newsLen)
      subst hn
      refine ⟨.slice none 0 0, w, ?_, RowAt.nil w e i.size, .refl _ _, fun k hk => .inl hk⟩
      have hc := hs.cells
      rcases hs.kind with ⟨e', hk⟩ | hk <;> simp [Builtin.append_, run_underlying ht, run_underlying hk, sizeOf, typeInfo, hi, hs.len, hc]
    · exact grow none 0 rfl (by omega) (run_firstCells_none w.drew i.size 0 0 0)
  · by_cases hroom : n + m ≤ cap
    · have hmul : n * i.size + m * i.size ≤ cap * i.size := by rw [← Nat.add_mul]; exact Nat.mul_le_mul_right _ hroom
      have hfit : off + n * i.size + news.length ≤ cur.size := by rw [hs.newsLen]; omega
      have hr := run_append_room_src (P := P) w t tx ty e i ht hi g off n cap x m news hs hroom
        (fun j hj => by rw [cell_of_block hg (Array.getElem?_eq_getElem (by omega))]; rfl) (fun j _ => frozen_of_block hg)
      refine ⟨_, _, hr, ⟨hlen, .inr ⟨g, off, cap, _, rfl, setCells_block news _ hg, hroom, hcm, ?_, ?_⟩⟩, ?_, fun k hk => .inl hk⟩
      · rw [putAt_size]; exact hcs
      · rw [putAt_toList _ _ _ hfit, List.append_assoc, List.drop_append_of_le_length (by simp; omega)]
        rw [← List.append_assoc, List.drop_take, show off + n * i.size - off = n * i.size from by omega, htake, ← hlen]
        exact List.take_left
      · exact (Chg.setCells news w _).mono (fun k _ hk => by simp only [Value.ownBlock, hk])
    · refine grow (some ⟨g, off, none⟩) cap rfl (by omega) ?_
      refine run_firstCells_some w.drew i.size n ⟨g, off, none⟩ n cap xs hown.1 ?_
      intro j u hu
      have := hown.cells rfl j u hu
      simpa using this

theorem wpList_append_row {P : Program} (w : World) {ops : Array Oper} {rest : List Oper} {o : Oper} {a : Act} {Q : Exit → Act → World → Prop} (hgd : o.guard = none) (s x : Operand) (t tx : TypeId)
    (ho : o.op = .call { callee := .builtin .append, args := #[s, x], argTypes := #[t, tx] })
    (e : TypeId) (i : TypeInfo) (z : Value) (size bytes : Nat) (ht : P.underlying t = some (.slice e)) (hi : P.info? e = some i) (hz : i.zero = some z)
    (hsize : i.size = size) (hby : i.bytes = bytes) (hzs : z.cells.size = size) (hsz : 0 < size)
    (v : Value) (n : Nat) (xs : List Value) (hsv : a.eval s = v) (hown : RowAt w e size v n xs)
    (xv : Value) (m : Nat) (news : List Value) (hx : a.eval x = xv) (hs : Src P size tx xv m news w)
    (h63 : n + m ≤ maxLen) (hbytes : (n + m) * bytes ≤ 140737488355328)
    (h : ∀ v' w', RowAt w' e size v' (n + m) (xs ++ news) → Chg (fun k => v.ownBlock = some k) w w' → (∀ k, v'.ownBlock = some k → v.ownBlock = some k ∨ w.heap.size ≤ k) → wpList P ops Q rest (a.put o.dst v') w') :
    wpList P ops Q (o :: rest) a w := by
  refine wpList_plain hgd fun K hK => ?_
  obtain ⟨v', w', hr, h2, h3, h4⟩ := run_append_row (P := P) w t tx o.type e i z size bytes ht hi hz hsize hby hzs hsz v n xs hown xv m news hs h63 hbytes
  unfold Oper.wp execOp
  simp only [ho, resolve, invoke, builtin, Sem.run_bind, Sem.run_pure, Result.andThen_ok, List.map_toArray, List.map_cons, List.map_nil, hsv, hx, hr]
  exact hK _ _ (h v' w' h2 h3 h4)

/-- The same, in a region that draws its order. -/
theorem step_append_row {P : Program} {w : World} {ops : Array Oper} {o : Oper} {a : Act} {K : Act → World → Prop} {Q : Exit → Act → World → Prop} {E : Prop} (hgd : o.guard = none) (s x : Operand) (t tx : TypeId)
    (ho : o.op = .call { callee := .builtin .append, args := #[s, x], argTypes := #[t, tx] })
    (e : TypeId) (i : TypeInfo) (z : Value) (size bytes : Nat) (ht : P.underlying t = some (.slice e)) (hi : P.info? e = some i) (hz : i.zero = some z)
    (hsize : i.size = size) (hby : i.bytes = bytes) (hzs : z.cells.size = size) (hsz : 0 < size)
    (v : Value) (n : Nat) (xs : List Value) (hsv : a.eval s = v) (hown : RowAt w e size v n xs)
    (xv : Value) (m : Nat) (news : List Value) (hx : a.eval x = xv) (hs : Src P size tx xv m news w)
    (h63 : n + m ≤ maxLen) (hbytes : (n + m) * bytes ≤ 140737488355328)
    (h : ∀ v' w', RowAt w' e size v' (n + m) (xs ++ news) → Chg (fun k => v.ownBlock = some k) w w' → (∀ k, v'.ownBlock = some k → v.ownBlock = some k ∨ w.heap.size ≤ k) → K (a.put o.dst v') w') :
    if Region.wanted o (yielded ops a.tmps) = true then Oper.wp P o a w K Q else E := by
  have hw : Region.wanted o (yielded ops a.tmps) = true := by simp [Region.wanted, hgd]
  rw [if_pos hw]
  obtain ⟨v', w', hr, h2, h3, h4⟩ := run_append_row (P := P) w t tx o.type e i z size bytes ht hi hz hsize hby hzs hsz v n xs hown xv m news hs h63 hbytes
  unfold Oper.wp execOp
  simp only [ho, resolve, invoke, builtin, Sem.run_bind, Sem.run_pure, Result.andThen_ok, List.map_toArray, List.map_cons, List.map_nil, hsv, hx, hr]
  exact h v' w' h2 h3 h4

end Go.Proofs.YthiiehanlconeaaDoor
