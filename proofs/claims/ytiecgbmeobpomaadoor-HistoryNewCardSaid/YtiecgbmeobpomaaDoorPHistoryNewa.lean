/-
  Memory by blocks: what a call may have changed (Chg); a slice that owns its block (RowAt); one law for append onto it.
  append onto an owned row, the result spelled as a slice.
  Rows of structs: stores into an owned row, elements of several cells.
  Representations with footprints: how a value of plain data lies in memory, which blocks are its own; fields, elements; what an operation through a pointer leaves alone.
  Rows behind a place: opened, lengthened; plain kinds of data.
  Steps: cells that stay; scalar fields stored; one element appended to a row behind a place.
  A row behind a place, about to be lengthened; places of elements as pointers.
  Copies: a whole row appended onto a row of one's own; a row in a field that is copied, lengthened and stored anew.
  What every law's row shares: a call that returned true and changed nothing old meets the row; how a law's walk is lifted to its statement.
  Arguments as the walk meets them: slices that came in, arrays of two integers.
  Arguments as the walk meets them: structs of scalars; slices of structs.
  Arguments as the walk meets them: slices of structs.
-/
import Derived.WalkKit
import Derived.WalkSpells
import Derived.Deep.AppendSrc
import Derived.Deep.Quiet
import Derived.Deep.RegionHeld3
import Derived.Test.YtiecgbmeobpomaaDoorRows
import Derived.ProofKit
import Derived.OpenShut
import Derived.ShutString
import Derived.ChangeOld
import Derived.Below
import Derived.Carry
import Derived.SizedLaws
import Derived.JoinedCond
import Derived.Deep.CondSized
import Derived.SliceStrings
import Derived.ChangeSlices
namespace Go.Proofs.YtiecgbmeobpomaaDoor
set_option linter.unusedVariables false
open Go.RowKit

/-- What has changed: at most the blocks of S, and new ones. -/
structure Chg (S : Nat → Prop) (w w' : World) : Prop where
  os : w'.os = w.os
  tape : w'.tape = w.tape
  output : w'.output = w.output
  size : w.heap.size ≤ w'.heap.size
  block : ∀ k, k < w.heap.size → ¬ S k → w'.heap[k]? = w.heap[k]?
theorem Chg.refl (S : Nat → Prop) (w : World) : Chg S w w := ⟨rfl, rfl, rfl, Nat.le_refl _, fun _ _ _ => rfl⟩
theorem Chg.trans {S S' S'' : Nat → Prop} {a b c : World} (h : Chg S a b) (k : Chg S' b c) (h1 : ∀ i, i < a.heap.size → S i → S'' i) (h2 : ∀ i, i < a.heap.size → S' i → S'' i) : Chg S'' a c :=
  ⟨k.os.trans h.os, k.tape.trans h.tape, k.output.trans h.output, Nat.le_trans h.size k.size,
    fun i hi hn => (k.block i (Nat.lt_of_lt_of_le hi h.size) (fun x => hn (h2 i hi x))).trans (h.block i hi (fun x => hn (h1 i hi x)))⟩
theorem Chg.trans' {S : Nat → Prop} {a b c : World} (h : Chg S a b) (k : Chg S b c) : Chg S a c := h.trans k (fun _ _ x => x) (fun _ _ x => x)
theorem Chg.mono {S S' : Nat → Prop} {a b : World} (h : Chg S a b) (h1 : ∀ i, i < a.heap.size → S i → S' i) : Chg S' a b :=
  ⟨h.os, h.tape, h.output, h.size, fun i hi hn => h.block i hi (fun x => hn (h1 i hi x))⟩
theorem Chg.drewR {S : Nat → Prop} {a b : World} (h : Chg S a b) : Chg S a b.drew := ⟨h.os, h.tape, h.output, h.size, h.block⟩
theorem Chg.drewNR {S : Nat → Prop} {a b : World} (h : Chg S a b) (n : Nat) : Chg S a (b.drewN n) := ⟨h.os, h.tape, h.output, h.size, h.block⟩
theorem Chg.ofDrew {S : Nat → Prop} {a b : World} (h : Chg S a.drew b) : Chg S a b := ⟨h.os, h.tape, h.output, h.size, h.block⟩
theorem Chg.ofDrewN {S : Nat → Prop} {a b : World} {n : Nat} (h : Chg S (a.drewN n) b) : Chg S a b := ⟨h.os, h.tape, h.output, h.size, h.block⟩
theorem Chg.drewN (S : Nat → Prop) (w : World) (n : Nat) : Chg S w (w.drewN n) := (Chg.refl S w).drewNR n
theorem Chg.alloc (S : Nat → Prop) (w : World) (o : Obj) : Chg S w (w.alloc o) :=
  ⟨rfl, rfl, rfl, by simp, fun k hk _ => Below.heap_alloc _ _ _ hk⟩
theorem Chg.allocR {S : Nat → Prop} {a b : World} (h : Chg S a b) (o : Obj) : Chg S a (b.alloc o) :=
  h.trans (Chg.alloc S b o) (fun _ _ x => x) (fun _ _ x => x)
theorem Chg.setCell (w : World) (p : Addr) (u : Value) : Chg (· = p.block) w (w.setCell p u) :=
  ⟨rfl, rfl, rfl, by simp [World.setCell], fun k _ hn => Below.heap_setCell _ _ _ _ hn⟩
theorem Chg.setCellR {S : Nat → Prop} {a b : World} (h : Chg S a b) (p : Addr) (u : Value) (hp : p.block < a.heap.size → S p.block) : Chg S a (b.setCell p u) :=
  h.trans (Chg.setCell b p u) (fun _ _ x => x) (fun i hi x => by subst x; exact hp hi)
theorem Chg.grown {w w' : World} {row : Option Nat} (h : w.grownBy w' row) : Chg (fun k => row = some k) w w' :=
  ⟨h.os, h.tape, h.output, h.size, fun k hk hn => h.block k hk (fun e => hn e.symm)⟩
theorem Chg.below {S : Nat → Prop} {B : Nat} {w w' : World} (h : Chg S w w') (hB : B ≤ w.heap.size) (hS : ∀ k, S k → B ≤ k) : Below B w w' :=
  ⟨h.os, h.tape, h.output, h.size, fun k hk => h.block k (by omega) (fun x => by have := hS k x; omega)⟩
theorem Chg.ofBelow {B : Nat} {w w' : World} (h : Below B w w') : Chg (fun k => B ≤ k) w w' :=
  ⟨h.os, h.tape, h.output, h.size, fun k _ hn => h.block k (by omega)⟩

theorem lt_of_block {w : World} {k : Nat} {o : Obj} (hk : w.heap[k]? = some o) : k < w.heap.size := (Array.getElem?_eq_some_iff.1 hk).1
/-- A block that a change left alone. -/
theorem Chg.keep {S : Nat → Prop} {w w' : World} (h : Chg S w w') {k : Nat} {o : Obj} (hk : w.heap[k]? = some o) (hn : ¬ S k) : w'.heap[k]? = some o := by
  rw [h.block k (lt_of_block hk) hn]; exact hk
theorem Chg.cell {w w' : World} (h : Chg (fun _ => False) w w') {a : Addr} {v : Value} (hc : w.cell? a = some v) : w'.cell? a = some v := by
  have hb : a.block < w.heap.size := World.block_lt_of_cell? w _ hc
  rw [World.cell?_of_block (h.block a.block hb (fun x => x))]; exact hc
theorem cell_of_block {w : World} {b T : Nat} {c : Array Value} {f : Nat × Nat} {i : Nat} {v : Value} (h : w.heap[b]? = some (.cells c T f)) (hc : c[i]? = some v) : w.cell? ⟨b, i, none⟩ = some v := by
  simp [World.cell?, h, hc]
theorem frozen_of_block {w : World} {b T : Nat} {c : Array Value} {i : Nat} (h : w.heap[b]? = some (.cells c T (0, 0))) : w.frozen? ⟨b, i, none⟩ = false := by
  simp [World.frozen?, h]
theorem setCell_block {w : World} {b T i : Nat} {c : Array Value} {f : Nat × Nat} (v : Value) (h : w.heap[b]? = some (.cells c T f)) :
    (w.setCell ⟨b, i, none⟩ v).heap[b]? = some (.cells (c.setIfInBounds i v) T f) := by
  simp [World.setCell, Array.getElem?_modify, h]
theorem setCell_other {w : World} {b i k : Nat} {o : Obj} (v : Value) (h : w.heap[k]? = some o) (hn : k ≠ b) : (w.setCell ⟨b, i, none⟩ v).heap[k]? = some o := by
  rw [Below.heap_setCell _ _ _ _ hn]; exact h
theorem alloc_block (w : World) (o : Obj) : (w.alloc o).heap[w.heap.size]? = some o := heap_alloc_new w o
theorem alloc_old {w : World} {b : Nat} {o : Obj} (p : Obj) (h : w.heap[b]? = some o) : (w.alloc p).heap[b]? = some o := by
  rw [Below.heap_alloc _ _ _ (lt_of_block h)]; exact h
theorem drew_block {w : World} {b : Nat} {o : Obj} (h : w.heap[b]? = some o) : w.drew.heap[b]? = some o := h
theorem drewN_block {w : World} {b : Nat} {o : Obj} (n : Nat) (h : w.heap[b]? = some o) : (w.drewN n).heap[b]? = some o := h

/-- Cells written from an offset on. -/
def putAt (c : Array Value) : Nat → List Value → Array Value
  | _, [] => c
  | o, v :: vs => putAt (c.setIfInBounds o v) (o + 1) vs
theorem putAt_size (vs : List Value) : ∀ (c : Array Value) (o : Nat), (putAt c o vs).size = c.size := by
  induction vs with
  | nil => intro c o; rfl
  | cons v vs ih => intro c o; rw [putAt, ih]; simp
theorem putAt_toList (vs : List Value) : ∀ (c : Array Value) (o : Nat), o + vs.length ≤ c.size → (putAt c o vs).toList = c.toList.take o ++ vs ++ c.toList.drop (o + vs.length) := by
  induction vs with
  | nil => intro c o _; simp [putAt]
  | cons v vs ih =>
    intro c o h
    simp only [List.length_cons] at h
    rw [putAt, ih _ _ (by simp; omega)]
    have h1 : (c.setIfInBounds o v).toList = c.toList.set o v := by simp
    rw [h1]
    have h2 : (c.toList.set o v).take (o + 1) = c.toList.take o ++ [v] := by
      rw [List.take_succ_eq_append_getElem (by simp; omega)]
      simp [List.take_set_of_le]
    have h3 : (c.toList.set o v).drop (o + 1 + vs.length) = c.toList.drop (o + 1 + vs.length) := by
      rw [List.drop_set_of_lt (by omega)]
    rw [h2, h3]
    simp [Nat.add_comm, Nat.add_left_comm]
theorem setCells_block {b T : Nat} {f : Nat × Nat} (vs : List Value) : ∀ {w : World} {c : Array Value} (o : Nat), w.heap[b]? = some (.cells c T f) →
    (w.setCells b o vs).heap[b]? = some (.cells (putAt c o vs) T f) := by
  induction vs with
  | nil => intro w c o h; exact h
  | cons v vs ih => intro w c o h; exact ih (o + 1) (setCell_block v h)
theorem Chg.setCells {b : Nat} (vs : List Value) : ∀ (w : World) (o : Nat), Chg (· = b) w (w.setCells b o vs) := by
  induction vs with
  | nil => intro w o; exact .refl _ _
  | cons v vs ih => intro w o; exact (Chg.setCell w ⟨b, o, none⟩ v).trans' (ih _ _)

/-- The slice v has n elements (size cells each), the cells xs, and owns its block. -/
def RowAt (w : World) (e size : Nat) (v : Value) (n : Nat) (xs : List Value) : Prop :=
  xs.length = n * size ∧
  ((v = .slice none 0 0 ∧ n = 0) ∨
   ∃ g off cap cur, v = .slice (some ⟨g, off, none⟩) n cap ∧ w.heap[g]? = some (.cells cur e (0, 0)) ∧ n ≤ cap ∧ cap ≤ maxLen ∧ off + cap * size ≤ cur.size ∧
     (cur.toList.drop off).take (n * size) = xs)
section
variable {w w' : World} {e size : Nat} {v : Value} {n : Nat} {xs : List Value}
theorem RowAt.nil (w : World) (e size : Nat) : RowAt w e size (.slice none 0 0) 0 [] := ⟨by simp, .inl ⟨rfl, rfl⟩⟩
theorem RowAt.keep (h : RowAt w e size v n xs) (hk : ∀ k o, v.ownBlock = some k → w.heap[k]? = some o → w'.heap[k]? = some o) : RowAt w' e size v n xs := by
  refine ⟨h.1, ?_⟩
  rcases h.2 with hn | ⟨g, off, cap, cur, rfl, hg, rest⟩
  · exact .inl hn
  · exact .inr ⟨g, off, cap, cur, rfl, hk g _ rfl hg, rest⟩
theorem RowAt.chg {S : Nat → Prop} (h : RowAt w e size v n xs) (hc : Chg S w w') (hn : ∀ k, v.ownBlock = some k → ¬ S k) : RowAt w' e size v n xs :=
  h.keep fun k _ hk ho => hc.keep ho (hn k hk)
theorem RowAt.alloc (h : RowAt w e size v n xs) (o : Obj) : RowAt (w.alloc o) e size v n xs := h.keep fun _ _ _ ho => alloc_old o ho
theorem RowAt.drew (h : RowAt w e size v n xs) : RowAt w.drew e size v n xs := h.keep fun _ _ _ ho => ho
theorem RowAt.drewN (h : RowAt w e size v n xs) (m : Nat) : RowAt (w.drewN m) e size v n xs := h.keep fun _ _ _ ho => ho
theorem RowAt.lt (h : RowAt w e size v n xs) : ∀ k, v.ownBlock = some k → k < w.heap.size := by
  intro k hk
  rcases h.2 with ⟨rfl, _⟩ | ⟨g, off, cap, cur, rfl, hg, _⟩
  · simp [Value.ownBlock] at hk
  · simp [Value.ownBlock] at hk; subst hk; exact lt_of_block hg
theorem RowAt.slice (h : RowAt w e size v n xs) : ∃ a cap, v = .slice a n cap ∧ n ≤ cap ∧ cap ≤ maxLen := by
  rcases h.2 with ⟨rfl, rfl⟩ | ⟨g, off, cap, cur, rfl, hg, h1, h2, _⟩
  · exact ⟨none, 0, rfl, Nat.le_refl _, by simp⟩
  · exact ⟨_, _, rfl, h1, h2⟩
theorem RowAt.cells (h : RowAt w e size v n xs) {a : Addr} {m cap : Nat} (hv : v = .slice (some a) m cap) :
    ∀ j u, xs[j]? = some u → w.cell? (a.add j) = some u := by
  intro j u hu
  rcases h.2 with ⟨rfl, _⟩ | ⟨g, off, cap', cur, rfl, hg, _, _, _, ht⟩
  · simp at hv
  · simp only [Value.slice.injEq, Option.some.injEq] at hv
    obtain ⟨rfl, _, _⟩ := hv
    have hadd : (⟨g, off, none⟩ : Addr).add j = ⟨g, off + j, none⟩ := by unfold Addr.add; split <;> simp_all
    rw [hadd]
    refine cell_of_block hg ?_
    rw [← ht, List.getElem?_take] at hu
    split at hu
    · simpa using hu
    · cases hu
theorem RowAt.cellAt {g off m cap : Nat} (h : RowAt w e size (.slice (some ⟨g, off, none⟩) m cap) n xs) (j : Nat) (u : Value) (hu : xs[j]? = some u) : w.cell? ⟨g, off + j, none⟩ = some u := by
  have := h.cells rfl j u hu
  rwa [show (⟨g, off, none⟩ : Addr).add j = ⟨g, off + j, none⟩ from by unfold Addr.add; split <;> simp_all] at this
end

/-- append onto an owned row, whatever is appended. -/
theorem run_append_row {P : Program} (w : World) (t tx ty e : TypeId) (i : TypeInfo) (z : Value) (size bytes : Nat) (ht : P.underlying t = some (.slice e)) (hi : P.info? e = some i) (hz : i.zero = some z)
    (hsize : i.size = size) (hby : i.bytes = bytes) (hzs : z.cells.size = size) (hsz : 0 < size)
    (v : Value) (n : Nat) (xs : List Value) (hown : RowAt w e size v n xs) (x : Value) (m : Nat) (news : List Value) (hs : Src P size tx x m news w)
    (h63 : n + m ≤ maxLen) (hbytes : (n + m) * bytes ≤ 140737488355328) :
    ∃ v' w', (Builtin.append_ #[t, tx] ty #[v, x]).run P w = .ok v' w' ∧ RowAt w' e size v' (n + m) (xs ++ news) ∧ Chg (fun k => v.ownBlock = some k) w w' ∧
      (∀ k, v'.ownBlock = some k → v.ownBlock = some k ∨ w.heap.size ≤ k) := by
  subst hsize
  subst hby
  have hlen : (xs ++ news).length = (n + m) * i.size := by rw [List.length_append, hown.1, hs.newsLen, Nat.add_mul]
  have grow : ∀ (base : Option Addr) (cap : Nat), v = .slice base n cap → cap < n + m → (Builtin.firstCells i.size n (.slice base n cap)).run P w.drew = .ok xs.toArray w.drew →
      ∃ v' w', (Builtin.append_ #[t, tx] ty #[v, x]).run P w = .ok v' w' ∧ RowAt w' e i.size v' (n + m) (xs ++ news) ∧ Chg (fun k => v.ownBlock = some k) w w' ∧
      (∀ k, v'.ownBlock = some k → v.ownBlock = some k ∨ w.heap.size ≤ k) := by
    intro base cap hv hcap hold
    have hr := run_append_grow_src (P := P) w t tx ty e i z ht hi hz base n cap xs hold x m news hs hcap (by simp only [maxLen] at h63; omega) (growslice_fits hcap hbytes)
    have hge := grownCap_ge w (n + m) cap e
    have hcm : grownCap w (n + m) cap e ≤ maxLen := grownCap_le_maxLen w (n + m) cap e h63
    refine ⟨_, _, by rw [hv]; exact hr, ⟨hlen, .inr ⟨w.heap.size, 0, _, _, rfl, heap_alloc_new w.drew _, hge, hcm, ?_, ?_⟩⟩, ?_, ?_⟩
    · simp only [Array.size_append, List.size_toArray, size_zeroCells, hzs, hlen, ← Nat.add_mul]
      rw [show n + m + (grownCap w (n + m) cap e - (n + m)) = grownCap w (n + m) cap e from by omega]
      omega
    · simp only [Array.toList_append, List.drop_zero]
      rw [← hlen]
      exact List.take_left
    · exact ((Chg.refl _ w).drewR).allocR _
    · intro k hk
      simp only [Value.ownBlock, Option.some.injEq] at hk
      exact .inr (by omega)
  rcases hown.2 with ⟨rfl, rfl⟩ | ⟨g, off, cap, cur, rfl, hg, hnc, hcm, hcs, htake⟩
  · have hx : xs = [] := List.eq_nil_of_length_eq_zero (by simpa using hown.1)
    subst hx
    by_cases hm : m = 0
    · subst hm
      have hn : news = [] := List.eq_nil_of_length_eq_zero (by simpa using hs.newsLen)
      subst hn
      refine ⟨.slice none 0 0, w, ?_, RowAt.nil w e i.size, .refl _ _, fun k hk => .inl hk⟩
      have hc := hs.cells
      rcases hs.kind with ⟨e', hk⟩ | hk <;> simp [Builtin.append_, run_underlying ht, run_underlying hk, sizeOf, typeInfo, hi, hs.len, hc]
    · exact grow none 0 rfl (by omega) (run_firstCells_none w.drew i.size 0 0 0)
  · by_cases hroom : n + m ≤ cap
    · have hmul : n * i.size + m * i.size ≤ cap * i.size := by rw [← Nat.add_mul]; exact Nat.mul_le_mul_right _ hroom
      have hfit : off + n * i.size + news.length ≤ cur.size := by rw [hs.newsLen]; omega
      have hr := run_append_room_src (P := P) w t tx ty e i ht hi g off n cap x m news hs hroom
        (fun j hj => by rw [cell_of_block hg (Array.getElem?_eq_getElem (by omega))]; rfl) (fun j _ => frozen_of_block hg)
      refine ⟨_, _, hr, ⟨hlen, .inr ⟨g, off, cap, _, rfl, setCells_block news _ hg, hroom, hcm, ?_, ?_⟩⟩, ?_, fun k hk => .inl hk⟩
      · rw [putAt_size]; exact hcs
      · rw [putAt_toList _ _ _ hfit, List.append_assoc, List.drop_append_of_le_length (by simp; omega)]
        rw [← List.append_assoc, List.drop_take, show off + n * i.size - off = n * i.size from by omega, htake, ← hlen]
        exact List.take_left
      · exact (Chg.setCells news w _).mono (fun k _ hk => by simp only [Value.ownBlock, hk])
    · refine grow (some ⟨g, off, none⟩) cap rfl (by omega) ?_
      refine run_firstCells_some w.drew i.size n ⟨g, off, none⟩ n cap xs hown.1 ?_
      intro j u hu
      have := hown.cells rfl j u hu
      simpa using this

theorem wpList_append_row {P : Program} (w : World) {ops : Array Oper} {rest : List Oper} {o : Oper} {a : Act} {Q : Exit → Act → World → Prop} (hgd : o.guard = none) (s x : Operand) (t tx : TypeId)
    (ho : o.op = .call { callee := .builtin .append, args := #[s, x], argTypes := #[t, tx] })
    (e : TypeId) (i : TypeInfo) (z : Value) (size bytes : Nat) (ht : P.underlying t = some (.slice e)) (hi : P.info? e = some i) (hz : i.zero = some z)
    (hsize : i.size = size) (hby : i.bytes = bytes) (hzs : z.cells.size = size) (hsz : 0 < size)
    (v : Value) (n : Nat) (xs : List Value) (hsv : a.eval s = v) (hown : RowAt w e size v n xs)
    (xv : Value) (m : Nat) (news : List Value) (hx : a.eval x = xv) (hs : Src P size tx xv m news w)
    (h63 : n + m ≤ maxLen) (hbytes : (n + m) * bytes ≤ 140737488355328)
    (h : ∀ v' w', RowAt w' e size v' (n + m) (xs ++ news) → Chg (fun k => v.ownBlock = some k) w w' → (∀ k, v'.ownBlock = some k → v.ownBlock = some k ∨ w.heap.size ≤ k) → wpList P ops Q rest (a.put o.dst v') w') :
    wpList P ops Q (o :: rest) a w := by
  refine wpList_plain hgd fun K hK => ?_
  obtain ⟨v', w', hr, h2, h3, h4⟩ := run_append_row (P := P) w t tx o.type e i z size bytes ht hi hz hsize hby hzs hsz v n xs hown xv m news hs h63 hbytes
  unfold Oper.wp execOp
  simp only [ho, resolve, invoke, builtin, Sem.run_bind, Sem.run_pure, Result.andThen_ok, List.map_toArray, List.map_cons, List.map_nil, hsv, hx, hr]
  exact hK _ _ (h v' w' h2 h3 h4)

/-- The same, in a region that draws its order. -/
theorem step_append_row {P : Program} {w : World} {ops : Array Oper} {o : Oper} {a : Act} {K : Act → World → Prop} {Q : Exit → Act → World → Prop} {E : Prop} (hgd : o.guard = none) (s x : Operand) (t tx : TypeId)
    (ho : o.op = .call { callee := .builtin .append, args := #[s, x], argTypes := #[t, tx] })
    (e : TypeId) (i : TypeInfo) (z : Value) (size bytes : Nat) (ht : P.underlying t = some (.slice e)) (hi : P.info? e = some i) (hz : i.zero = some z)
    (hsize : i.size = size) (hby : i.bytes = bytes) (hzs : z.cells.size = size) (hsz : 0 < size)
    (v : Value) (n : Nat) (xs : List Value) (hsv : a.eval s = v) (hown : RowAt w e size v n xs)
    (xv : Value) (m : Nat) (news : List Value) (hx : a.eval x = xv) (hs : Src P size tx xv m news w)
    (h63 : n + m ≤ maxLen) (hbytes : (n + m) * bytes ≤ 140737488355328)
    (h : ∀ v' w', RowAt w' e size v' (n + m) (xs ++ news) → Chg (fun k => v.ownBlock = some k) w w' → (∀ k, v'.ownBlock = some k → v.ownBlock = some k ∨ w.heap.size ≤ k) → K (a.put o.dst v') w') :
    if Region.wanted o (yielded ops a.tmps) = true then Oper.wp P o a w K Q else E := by
  have hw : Region.wanted o (yielded ops a.tmps) = true := by simp [Region.wanted, hgd]
  rw [if_pos hw]
  obtain ⟨v', w', hr, h2, h3, h4⟩ := run_append_row (P := P) w t tx o.type e i z size bytes ht hi hz hsize hby hzs hsz v n xs hown xv m news hs h63 hbytes
  unfold Oper.wp execOp
  simp only [ho, resolve, invoke, builtin, Sem.run_bind, Sem.run_pure, Result.andThen_ok, List.map_toArray, List.map_cons, List.map_nil, hsv, hx, hr]
  exact h v' w' h2 h3 h4

end Go.Proofs.YtiecgbmeobpomaaDoor
namespace Go.Proofs.YtiecgbmeobpomaaDoor
open Go.RowKit
set_option linter.unusedVariables false

theorem wpList_append_slice {P : Program} (w : World) {ops : Array Oper} {rest : List Oper} {o : Oper} {a : Act} {Q : Exit → Act → World → Prop} (hgd : o.guard = none) (s x : Operand) (t tx : TypeId)
    (ho : o.op = .call { callee := .builtin .append, args := #[s, x], argTypes := #[t, tx] })
    (e : TypeId) (i : TypeInfo) (z : Value) (size bytes : Nat) (ht : P.underlying t = some (.slice e)) (hi : P.info? e = some i) (hz : i.zero = some z)
    (hsize : i.size = size) (hby : i.bytes = bytes) (hzs : z.cells.size = size) (hsz : 0 < size)
    (v : Value) (n : Nat) (xs : List Value) (hsv : a.eval s = v) (hown : RowAt w e size v n xs)
    (xv : Value) (m : Nat) (news : List Value) (hx : a.eval x = xv) (hs : Src P size tx xv m news w)
    (h63 : n + m ≤ maxLen) (hbytes : (n + m) * bytes ≤ 140737488355328)
    (h : ∀ a1 n1 c1 w', RowAt w' e size (.slice a1 n1 c1) (n + m) (xs ++ news) → Chg (fun k => v.ownBlock = some k) w w' → (∀ k, (Value.slice a1 n1 c1).ownBlock = some k → v.ownBlock = some k ∨ w.heap.size ≤ k) → wpList P ops Q rest (a.put o.dst (.slice a1 n1 c1)) w') :
    wpList P ops Q (o :: rest) a w := by
  refine wpList_append_row w hgd s x t tx ho e i z size bytes ht hi hz hsize hby hzs hsz v n xs hsv hown xv m news hx hs h63 hbytes ?_
  intro v' w' h1 h2 h3
  obtain ⟨a1, c1, rfl, _⟩ := h1.slice
  exact h a1 _ c1 w' h1 h2 h3
end Go.Proofs.YtiecgbmeobpomaaDoor
namespace Go.Proofs.YtiecgbmeobpomaaDoor
open Go.RowKit
set_option linter.unusedVariables false

section
variable {w : World} {e size : Nat} {g off n m cap : Nat} {xs : List Value}
theorem RowAt.store (h : RowAt w e size (.slice (some ⟨g, off, none⟩) n cap) m xs) (j : Nat) (hj : j < xs.length) (u : Value) : RowAt (w.setCell ⟨g, off + j, none⟩ u) e size (.slice (some ⟨g, off, none⟩) n cap) m (xs.set j u) := by
  rcases h.2 with ⟨hv, _⟩ | ⟨g', off', cap', cur, hv, hg, h1, h2, h3, h4⟩
  · simp at hv
  · simp only [Value.slice.injEq, Option.some.injEq, Addr.mk.injEq] at hv
    obtain ⟨⟨rfl, rfl, _⟩, rfl, rfl⟩ := hv
    refine ⟨by simpa using h.1, .inr ⟨g, off, cap, _, rfl, setCell_block u hg, h1, h2, by simpa using h3, ?_⟩⟩
    have hmul : n * size ≤ cap * size := Nat.mul_le_mul_right _ h1
    have hlen := h.1
    rw [← h4]
    simp only [Array.toList_setIfInBounds]
    rw [List.drop_set, if_neg (by omega), show off + j - off = j from by omega, List.take_set]
theorem RowAt.frozenAt (h : RowAt w e size (.slice (some ⟨g, off, none⟩) n cap) m xs) (j : Nat) : w.frozen? ⟨g, off + j, none⟩ = false := by
  rcases h.2 with ⟨hv, _⟩ | ⟨g', off', cap', cur, hv, hg, _⟩
  · simp at hv
  · simp only [Value.slice.injEq, Option.some.injEq, Addr.mk.injEq] at hv
    obtain ⟨⟨rfl, rfl, _⟩, rfl, rfl⟩ := hv
    exact frozen_of_block hg
theorem RowAt.addr {v : Value} (h : RowAt w e size v m xs) (hm : 0 < m) : ∃ g off cap, v = .slice (some ⟨g, off, none⟩) m cap ∧ m ≤ cap ∧ cap ≤ maxLen := by
  rcases h.2 with ⟨_, h0⟩ | ⟨g, off, cap, cur, rfl, _, h1, h2, _⟩
  · omega
  · exact ⟨g, off, cap, rfl, h1, h2⟩
end

section
variable {α : Type} (f : α → List Value) (k : Nat)
theorem flat_length (hf : ∀ a, (f a).length = k) (l : List α) : (l.flatMap f).length = l.length * k := by
  induction l with
  | nil => simp
  | cons a l ih => rw [List.flatMap_cons, List.length_append, ih, hf, List.length_cons, Nat.add_mul]; omega
theorem flat_get (hf : ∀ a, (f a).length = k) : ∀ (l : List α) (i j : Nat) (hi : i < l.length) (hj : j < k), (l.flatMap f)[i * k + j]? = (f l[i])[j]?
  | [], i, j, hi, _ => by simp at hi
  | a :: l, 0, j, _, hj => by rw [List.flatMap_cons, Nat.zero_mul, Nat.zero_add, List.getElem?_append_left (by rw [hf]; exact hj)]; rfl
  | a :: l, i + 1, j, hi, hj => by
    rw [List.flatMap_cons, List.getElem?_append_right (by rw [hf, Nat.add_mul]; omega), hf, show (i + 1) * k + j - k = i * k + j from by rw [Nat.add_mul]; omega, flat_get hf l i j (by simpa using hi) hj]
    rfl
theorem flat_set (hf : ∀ a, (f a).length = k) : ∀ (l : List α) (i j : Nat) (hi : i < l.length) (hj : j < k) (u : Value) (a' : α), f a' = (f l[i]).set j u → (l.flatMap f).set (i * k + j) u = (l.set i a').flatMap f
  | [], i, j, hi, _, _, _, _ => by simp at hi
  | a :: l, 0, j, _, hj, u, a', h => by
    rw [List.flatMap_cons, Nat.zero_mul, Nat.zero_add, List.set_append_left _ _ (by rw [hf]; exact hj), List.set_cons_zero, List.flatMap_cons, h]; rfl
  | a :: l, i + 1, j, hi, hj, u, a', h => by
    rw [List.flatMap_cons, List.set_append_right _ _ (by rw [hf, Nat.add_mul]; omega), hf, show (i + 1) * k + j - k = i * k + j from by rw [Nat.add_mul]; omega, flat_set hf l i j (by simpa using hi) hj u a' h, List.set_cons_succ, List.flatMap_cons]
end
end Go.Proofs.YtiecgbmeobpomaaDoor
namespace Go.Proofs.YtiecgbmeobpomaaDoor
open Go.RowKit
set_option linter.unusedVariables false

/-- The block of a slice, as a list. -/
def ownL (v : Value) : List Nat := v.ownBlock.toList
theorem mem_ownL {v : Value} {k : Nat} : k ∈ ownL v ↔ v.ownBlock = some k := by simp [ownL, Option.mem_toList, eq_comm]
theorem ownL_nil : ownL (.slice none 0 0) = [] := rfl
theorem ownL_some (g off : Nat) (sp : Option Nat) (n c : Nat) : ownL (.slice (some ⟨g, off, sp⟩) n c) = [g] := rfl

/-- How data of a type lie in memory: n cells; own w cs a F: the cells cs read as a, the blocks F lie behind them. -/
structure Rep (α : Type) where
  n : Nat
  own : World → List Value → α → List Nat → Prop
  len : ∀ {w cs a F}, own w cs a F → cs.length = n
  lt : ∀ {w cs a F}, own w cs a F → ∀ k ∈ F, k < w.heap.size
  keep : ∀ {w w' cs a F}, own w cs a F → (∀ k ∈ F, ∀ o, w.heap[k]? = some o → w'.heap[k]? = some o) → own w' cs a F

theorem Chg.keepAll {S : Nat → Prop} {w w' : World} (h : Chg S w w') {F : List Nat} (hn : ∀ k ∈ F, ¬ S k) : ∀ k ∈ F, ∀ o, w.heap[k]? = some o → w'.heap[k]? = some o :=
  fun k hk _ ho => h.keep ho (hn k hk)
theorem Rep.chg {α : Type} (A : Rep α) {S : Nat → Prop} {w w' : World} {cs : List Value} {a : α} {F : List Nat} (h : A.own w cs a F) (hc : Chg S w w') (hn : ∀ k ∈ F, ¬ S k) : A.own w' cs a F :=
  A.keep h (hc.keepAll hn)

/-- Data without blocks of their own. -/
def Rep.flat {α : Type} (n : Nat) (f : α → List Value) (hf : ∀ a, (f a).length = n) : Rep α where
  n := n
  own := fun _ cs a F => cs = f a ∧ F = []
  len := fun h => by rw [h.1]; exact hf _
  lt := fun h k hk => by rw [h.2] at hk; cases hk
  keep := fun h _ => h

/-- Elements one behind the other. -/
inductive Each {α : Type} (A : Rep α) (w : World) : List (List Value) → List α → List (List Nat) → Prop
  | nil : Each A w [] [] []
  | cons {x a F xs l Fs} : A.own w x a F → Each A w xs l Fs → Each A w (x :: xs) (a :: l) (F :: Fs)
section
variable {α : Type} {A : Rep α} {w w' : World} {xs : List (List Value)} {l : List α} {Fs : List (List Nat)}
theorem Each.length (h : Each A w xs l Fs) : xs.length = l.length ∧ Fs.length = l.length := by
  induction h with
  | nil => exact ⟨rfl, rfl⟩
  | cons _ _ ih => simp [ih.1, ih.2]
theorem Each.flat (h : Each A w xs l Fs) : xs.flatten.length = l.length * A.n := by
  induction h with
  | nil => simp
  | cons h1 _ ih => rw [List.flatten_cons, List.length_append, ih, A.len h1, List.length_cons, Nat.add_mul]; omega
theorem Each.lt (h : Each A w xs l Fs) : ∀ k ∈ Fs.flatten, k < w.heap.size := by
  induction h with
  | nil => intro k hk; simp at hk
  | cons h1 _ ih =>
    intro k hk
    rw [List.flatten_cons, List.mem_append] at hk
    rcases hk with hk | hk
    · exact A.lt h1 k hk
    · exact ih k hk
theorem Each.keep (h : Each A w xs l Fs) : (∀ k ∈ Fs.flatten, ∀ o, w.heap[k]? = some o → w'.heap[k]? = some o) → Each A w' xs l Fs := by
  induction h with
  | nil => intro _; exact .nil
  | cons h1 _ ih =>
    intro hk
    exact .cons (A.keep h1 fun k hm => hk k (by rw [List.flatten_cons]; exact List.mem_append_left _ hm)) (ih fun k hm => hk k (by rw [List.flatten_cons]; exact List.mem_append_right _ hm))
theorem Each.append {ys : List (List Value)} {m : List α} {Gs : List (List Nat)} (h : Each A w xs l Fs) (h2 : Each A w ys m Gs) : Each A w (xs ++ ys) (l ++ m) (Fs ++ Gs) := by
  induction h with
  | nil => exact h2
  | cons h1 _ ih => exact .cons h1 ih
/-- The i-th element, and how it is replaced. -/
theorem Each.at (h : Each A w xs l Fs) : ∀ i (hi : i < l.length), ∃ x F xa xb Fa Fb, A.own w x l[i] F ∧ xs = xa ++ x :: xb ∧ xa.length = i ∧ Fs = Fa ++ F :: Fb ∧
    (∀ w' y a' G, (∀ k ∈ Fa.flatten ++ Fb.flatten, ∀ o, w.heap[k]? = some o → w'.heap[k]? = some o) → A.own w' y a' G → Each A w' (xa ++ y :: xb) (l.set i a') (Fa ++ G :: Fb)) := by
  induction h with
  | nil => intro i hi; simp at hi
  | @cons x a F xs l Fs h1 h2 ih =>
    intro i hi
    cases i with
    | zero =>
      refine ⟨x, F, [], xs, [], Fs, h1, rfl, rfl, rfl, fun w' y a' G hk hy => .cons hy (h2.keep fun k hm => hk k (by simpa using hm))⟩
    | succ i =>
      obtain ⟨y, G, xa, xb, Fa, Fb, q1, rfl, q3, rfl, q5⟩ := ih i (by simpa using hi)
      refine ⟨y, G, x :: xa, xb, F :: Fa, Fb, q1, rfl, by simp [q3], rfl, fun w' z a' H hk hz => ?_⟩
      refine .cons (A.keep h1 fun k hm => hk k (by simp [hm])) (q5 w' z a' H (fun k hm => hk k ?_) hz)
      simp only [List.flatten_cons, List.append_assoc, List.mem_append] at hm ⊢
      exact .inr hm
end

/-- A slice that owns its block, the elements with what is behind them. -/
def Rep.row {α : Type} (A : Rep α) (e : TypeId) : Rep (List α) where
  n := 1
  own := fun w cs l F => ∃ v xs Fs, cs = [v] ∧ RowAt w e A.n v l.length xs.flatten ∧ Each A w xs l Fs ∧ F = ownL v ++ Fs.flatten
  len := fun ⟨_, _, _, h, _⟩ => by rw [h]; rfl
  lt := fun ⟨v, xs, Fs, _, h2, h3, h4⟩ k hk => by
    rw [h4, List.mem_append] at hk
    rcases hk with hk | hk
    · exact h2.lt k (mem_ownL.1 hk)
    · exact h3.lt k hk
  keep := fun ⟨v, xs, Fs, h1, h2, h3, h4⟩ hk => ⟨v, xs, Fs, h1, h2.keep fun k o hv ho => hk k (by rw [h4]; exact List.mem_append_left _ (mem_ownL.2 hv)) o ho,
    h3.keep fun k hm => hk k (by rw [h4]; exact List.mem_append_right _ hm), h4⟩

theorem each_flat {α : Type} {n : Nat} {f : α → List Value} {hf : ∀ a, (f a).length = n} {w : World} : ∀ {xs : List (List Value)} {l : List α} {Fs : List (List Nat)}, Each (Rep.flat n f hf) w xs l Fs → xs.flatten = l.flatMap f ∧ Fs.flatten = []
  | _, _, _, .nil => ⟨rfl, rfl⟩
  | _, _, _, .cons h1 h2 => by
    obtain ⟨a, b⟩ := each_flat h2
    rw [List.flatten_cons, List.flatten_cons, List.flatMap_cons, a, b, h1.1, h1.2]
    exact ⟨rfl, rfl⟩
theorem flat_each {α : Type} {n : Nat} {f : α → List Value} (hf : ∀ a, (f a).length = n) {w : World} : ∀ (l : List α), Each (Rep.flat n f hf) w (l.map f) l (l.map fun _ => [])
  | [] => .nil
  | a :: l => .cons ⟨rfl, rfl⟩ (flat_each hf l)
/-- A slice of flat data. -/
theorem row_flat {α : Type} {n : Nat} {f : α → List Value} {hf : ∀ a, (f a).length = n} {e : TypeId} {w : World} {cs : List Value} {l : List α} {F : List Nat} :
    ((Rep.flat n f hf).row e).own w cs l F ↔ ∃ v, cs = [v] ∧ RowAt w e n v l.length (l.flatMap f) ∧ F = ownL v := by
  constructor
  · rintro ⟨v, xs, Fs, h1, h2, h3, h4⟩
    obtain ⟨a, b⟩ := each_flat h3
    rw [a] at h2
    exact ⟨v, h1, h2, by rw [h4, b, List.append_nil]⟩
  · rintro ⟨v, h1, h2, h3⟩
    refine ⟨v, l.map f, l.map fun _ => [], h1, ?_, flat_each hf l, ?_⟩
    · rw [← List.flatMap_def]; exact h2
    · rw [h3]
      have : (l.map fun _ => ([] : List Nat)).flatten = [] := by induction l <;> simp_all
      rw [this, List.append_nil]

/-- A field of a type: at cell k. -/
structure FieldOf {α β : Type} (A : Rep α) (B : Rep β) (k : Nat) (get : α → β) (set : α → β → α) : Prop where
  fits : k + B.n ≤ A.n
  split : ∀ {w cs a F}, A.own w cs a F → ∃ F1 F2 F3, F = F1 ++ F2 ++ F3 ∧ B.own w ((cs.drop k).take B.n) (get a) F2 ∧
    ∀ w' ys y G, (∀ x ∈ F1 ++ F3, ∀ o, w.heap[x]? = some o → w'.heap[x]? = some o) → B.own w' ys y G → A.own w' (cs.take k ++ ys ++ cs.drop (k + B.n)) (set a y) (F1 ++ G ++ F3)

/-- Data of a type at a place within a block; the blocks behind them are apart, and apart from this one. -/
structure Here {α : Type} (A : Rep α) (w : World) (b o : Nat) (a : α) (F : List Nat) : Prop where
  box : ∃ c T, w.heap[b]? = some (.cells c T (0, 0)) ∧ A.own w ((c.toList.drop o).take A.n) a F
  nb : b ∉ F
  nd : F.Nodup

/-- What an operation on n cells at ⟨b, o⟩ (the blocks F behind them before, F' behind) changes at most. -/
structure Step (w w' : World) (b o n : Nat) (F F' : List Nat) : Prop where
  chg : Chg (fun k => k = b ∨ k ∈ F) w w'
  new : ∀ k ∈ F', k ∈ F ∨ w.heap.size ≤ k
  rest : ∀ c T, w.heap[b]? = some (.cells c T (0, 0)) → ∃ c', w'.heap[b]? = some (.cells c' T (0, 0)) ∧ c'.size = c.size ∧ ∀ j, j < o ∨ o + n ≤ j → c'[j]? = c[j]?

section
variable {w w' w'' : World} {b o n : Nat} {F F' F'' : List Nat}
theorem Step.refl (w : World) (b o n : Nat) (F : List Nat) : Step w w b o n F F := ⟨.refl _ _, fun _ h => .inl h, fun c T h => ⟨c, h, rfl, fun _ _ => rfl⟩⟩
theorem Step.trans (h : Step w w' b o n F F') (k : Step w' w'' b o n F' F'') : Step w w'' b o n F F'' := by
  refine ⟨h.chg.trans k.chg (fun _ _ x => x) ?_, ?_, ?_⟩
  · rintro i hi (x | x)
    · exact .inl x
    · rcases h.new i x with y | y
      · exact .inr y
      · omega
  · intro i x
    rcases k.new i x with y | y
    · exact h.new i y
    · exact .inr (Nat.le_trans h.chg.size y)
  · intro c T hc
    obtain ⟨c', h1, h2, h3⟩ := h.rest c T hc
    obtain ⟨c'', k1, k2, k3⟩ := k.rest c' T h1
    exact ⟨c'', k1, k2.trans h2, fun j hj => (k3 j hj).trans (h3 j hj)⟩
theorem Step.ofChg (h : Chg (fun _ => False) w w') : Step w w' b o n F F :=
  ⟨h.mono (fun _ _ x => x.elim), fun _ x => .inl x, fun c T hc => ⟨c, h.keep hc (fun x => x), rfl, fun _ _ => rfl⟩⟩
theorem Step.drew (h : Step w.drew w' b o n F F') : Step w w' b o n F F' := ⟨h.chg.ofDrew, h.new, h.rest⟩
theorem Step.drewR (h : Step w w' b o n F F') : Step w w'.drew b o n F F' := ⟨h.chg.drewR, h.new, h.rest⟩
theorem Step.sub {G : List Nat} (h : Step w w' b o n F F') (hs : ∀ k ∈ F, k ∈ G) (hn : ∀ k ∈ F', k ∈ G ∨ w.heap.size ≤ k → True) {G' : List Nat} (hg : ∀ k ∈ G', k ∈ F' ∨ k ∈ G) : Step w w' b o n G G' := by
  refine ⟨h.chg.mono (fun i _ x => x.imp id (hs i)), fun k hk => ?_, h.rest⟩
  rcases hg k hk with x | x
  · exact (h.new k x).imp (hs k) id
  · exact .inl x
end

section
variable {α β : Type} {A : Rep α} {B : Rep β} {w w' : World} {b o : Nat} {a : α} {F : List Nat}
theorem Here.size (h : Here A w b o a F) : ∃ c T, w.heap[b]? = some (.cells c T (0, 0)) ∧ A.own w ((c.toList.drop o).take A.n) a F ∧ o + A.n ≤ c.size ∨ A.n = 0 := by
  obtain ⟨c, T, h1, h2⟩ := h.box
  have := A.len h2
  simp only [List.length_take, List.length_drop, Array.length_toList] at this
  exact ⟨c, T, by by_cases h0 : A.n = 0; exact .inr h0; exact .inl ⟨h1, h2, by omega⟩⟩
theorem Here.chg {S : Nat → Prop} (h : Here A w b o a F) (hc : Chg S w w') (hb : ¬ S b) (hn : ∀ k ∈ F, ¬ S k) : Here A w' b o a F := by
  obtain ⟨c, T, h1, h2⟩ := h.box
  exact ⟨⟨c, T, hc.keep h1 hb, A.chg h2 hc hn⟩, h.nb, h.nd⟩
theorem Here.still (h : Here A w b o a F) (hc : Chg (fun _ => False) w w') : Here A w' b o a F := h.chg hc (fun x => x) (fun _ _ x => x)
theorem Here.drew (h : Here A w b o a F) : Here A w.drew b o a F := h.still ((Chg.refl _ w).drewR)
theorem Here.alloc (h : Here A w b o a F) (ob : Obj) : Here A (w.alloc ob) b o a F := h.still (Chg.alloc _ w ob)
theorem Here.lt (h : Here A w b o a F) : b < w.heap.size ∧ ∀ k ∈ F, k < w.heap.size := by
  obtain ⟨c, T, h1, h2⟩ := h.box
  exact ⟨lt_of_block h1, A.lt h2⟩
/-- Another thing, apart from what an operation changed. -/
theorem Here.apart {γ : Type} {C : Rep γ} {b' o' : Nat} {x : γ} {G F' : List Nat} {n : Nat} (h : Here C w b' o' x G) (hs : Step w w' b o n F F') (h1 : b' ≠ b) (h2 : b' ∉ F) (h3 : b ∉ G) (h4 : ∀ k ∈ G, k ∉ F) : Here C w' b' o' x G :=
  h.chg hs.chg (fun x => x.elim h1 h2) (fun k hk x => x.elim (fun e => h3 (e ▸ hk)) (h4 k hk))

theorem take_drop_get {l : List Value} {o n j : Nat} (hj : j < n) : ((l.drop o).take n)[j]? = l[o + j]? := by
  rw [List.getElem?_take, if_pos hj, List.getElem?_drop]
/-- The cells of what lies at a place. -/
theorem Here.cell (h : Here A w b o a F) : ∃ cs, A.own w cs a F ∧ ∀ j u, cs[j]? = some u → w.cell? ⟨b, o + j, none⟩ = some u := by
  obtain ⟨c, T, h1, h2⟩ := h.box
  refine ⟨_, h2, fun j u hu => cell_of_block h1 ?_⟩
  have hj : j < A.n := by
    have h3 := (List.getElem?_eq_some_iff.1 hu).1
    rw [A.len h2] at h3; exact h3
  rw [take_drop_get hj] at hu
  simpa using hu
theorem Here.frozen (h : Here A w b o a F) (j : Nat) : w.frozen? ⟨b, j, none⟩ = false := by
  obtain ⟨c, T, h1, h2⟩ := h.box
  exact frozen_of_block h1

/-- The n cells at o of an array replaced. -/
theorem drop_take_split (l : List Value) (o n : Nat) : l = l.take o ++ (l.drop o).take n ++ l.drop (o + n) := by
  rw [List.append_assoc, ← List.drop_drop, List.take_append_drop, List.take_append_drop]

theorem ext_rest {c c' : Array Value} {o k m n : Nat} (hs : c'.size = c.size) (hk : k + m ≤ n) (hn : o + n ≤ c.size) (h : ∀ j, j < o + k ∨ o + k + m ≤ j → c'[j]? = c[j]?) :
    (c'.toList.drop o).take n = ((c.toList.drop o).take n).take k ++ (c'.toList.drop (o + k)).take m ++ ((c.toList.drop o).take n).drop (k + m) := by
  have e : ∀ (j : Nat), c'.toList[j]? = c'[j]? := fun j => by simp
  have e' : ∀ (j : Nat), c.toList[j]? = c[j]? := fun j => by simp
  refine List.ext_getElem? fun j => ?_
  by_cases h1 : j < k
  · rw [List.getElem?_append_left (by simp; omega), List.getElem?_append_left (by simp; omega), take_drop_get (by omega), List.getElem?_take, if_pos h1, take_drop_get (by omega), e, e', h _ (by omega)]
  · by_cases h2 : j < k + m
    · rw [List.getElem?_append_left (by simp; omega), List.getElem?_append_right (by simp; omega), take_drop_get (by omega)]
      have hl : (List.take k (List.take n (List.drop o c.toList))).length = k := by simp; omega
      rw [hl, take_drop_get (by omega), show o + k + (j - k) = o + j from by omega]
    · have hl : (List.take k (List.take n (List.drop o c.toList)) ++ List.take m (List.drop (o + k) c'.toList)).length = k + m := by simp; omega
      rw [List.getElem?_append_right (by rw [hl]; omega), hl, List.getElem?_drop, show k + m + (j - (k + m)) = j from by omega]
      by_cases h3 : j < n
      · rw [take_drop_get h3, take_drop_get h3, e, e', h _ (by omega)]
      · rw [List.getElem?_take, if_neg h3, List.getElem?_take, if_neg h3]

/-- A field: it lies there, and when it has been changed the whole lies there. -/
theorem Here.fieldX {k : Nat} {get : α → β} {set : α → β → α} (fl : FieldOf A B k get set) (hA : 0 < A.n) (h : Here A w b o a F) :
    ∃ G, Here B w b (o + k) (get a) G ∧ (∀ x ∈ G, x ∈ F) ∧ ∀ w' y G', Here B w' b (o + k) y G' → Step w w' b (o + k) B.n G G' → ∃ F', Here A w' b o (set a y) F' ∧ Step w w' b o A.n F F' ∧ ∀ x ∈ F', x ∈ G' ∨ (x ∈ F ∧ x ∉ G) := by
  obtain ⟨c, T, h1, h2⟩ := h.box
  obtain ⟨F1, F2, F3, rfl, h4, h5⟩ := fl.split h2
  have hl := A.len h2
  have hfit := fl.fits
  simp only [List.length_take, List.length_drop, Array.length_toList] at hl
  have hnd := h.nd
  have hnb := h.nb
  simp only [List.nodup_append, List.mem_append, not_or] at hnd hnb
  have hcs : (List.take B.n (List.drop k (List.take A.n (List.drop o c.toList)))) = (c.toList.drop (o + k)).take B.n := by
    refine List.ext_getElem? fun j => ?_
    by_cases hj : j < B.n
    · rw [take_drop_get hj, take_drop_get hj, take_drop_get (by omega)]; congr 1; omega
    · rw [List.getElem?_take, if_neg hj, List.getElem?_take, if_neg hj]
  rw [hcs] at h4
  refine ⟨F2, ⟨⟨c, T, h1, h4⟩, hnb.1.2, hnd.1.2.1⟩, fun x hx => by simp [hx], ?_⟩
  intro w' y G' hy hs
  obtain ⟨c', q1, q2, q3⟩ := hs.rest c T h1
  obtain ⟨c2, T2, r1, r2⟩ := hy.box
  rw [q1] at r1
  simp only [Option.some.injEq, Obj.cells.injEq] at r1
  obtain ⟨rfl, rfl, _⟩ := r1
  have hkeep : ∀ x ∈ F1 ++ F3, ∀ ob, w.heap[x]? = some ob → w'.heap[x]? = some ob := by
    intro x hx ob ho
    rw [List.mem_append] at hx
    refine hs.chg.keep ho ?_
    rintro (e | e)
    · subst e; exact hx.elim hnb.1.1 hnb.2
    · rcases hx with hx | hx
      · exact hnd.1.2.2 x hx x e rfl
      · exact hnd.2.2 x (.inr e) x hx rfl
  have hown := h5 w' _ y G' hkeep r2
  refine ⟨F1 ++ G' ++ F3, ⟨⟨c', T, q1, ?_⟩, ?_, ?_⟩, ⟨?_, ?_, ?_⟩, ?_⟩
  · rw [ext_rest (m := B.n) q2 hfit (by omega) q3]; exact hown
  · simp only [List.mem_append, not_or]; exact ⟨⟨hnb.1.1, hy.nb⟩, hnb.2⟩
  · have hlt := A.lt h2
    have hG : ∀ x ∈ G', x ∉ F1 ∧ x ∉ F3 := by
      intro x hx
      rcases hs.new x hx with e | e
      · exact ⟨fun z => hnd.1.2.2 x z x e rfl, fun z => hnd.2.2 x (.inr e) x z rfl⟩
      · exact ⟨fun z => by have := hlt x (by simp [z]); omega, fun z => by have := hlt x (by simp [z]); omega⟩
    simp only [List.nodup_append, List.mem_append]
    refine ⟨⟨hnd.1.1, hy.nd, fun x hx z hz e => (hG z hz).1 (e ▸ hx)⟩, hnd.2.1, ?_⟩
    rintro x (hx | hx) z hz rfl
    · exact hnd.2.2 x (.inl hx) x hz rfl
    · exact (hG x hx).2 hz
  · exact hs.chg.mono fun i _ x => x.imp id (fun e => by simp [e])
  · intro x hx
    simp only [List.mem_append] at hx ⊢
    rcases hx with (hx | hx) | hx
    · exact .inl (.inl (.inl hx))
    · exact (hs.new x hx).imp (fun e => .inl (.inr e)) id
    · exact .inl (.inr hx)
  · intro d U hd
    rw [h1] at hd
    simp only [Option.some.injEq, Obj.cells.injEq] at hd
    obtain ⟨rfl, rfl, _⟩ := hd
    exact ⟨c', q1, q2, fun j hj => q3 j (by omega)⟩
  · intro x hx
    simp only [List.mem_append] at hx ⊢
    rcases hx with (hx | hx) | hx
    · exact .inr ⟨.inl (.inl hx), fun z => hnd.1.2.2 x hx x z rfl⟩
    · exact .inl hx
    · exact .inr ⟨.inr hx, fun z => hnd.2.2 x (.inr z) x hx rfl⟩
theorem Here.field {k : Nat} {get : α → β} {set : α → β → α} (fl : FieldOf A B k get set) (hA : 0 < A.n) (h : Here A w b o a F) :
    ∃ G, Here B w b (o + k) (get a) G ∧ (∀ x ∈ G, x ∈ F) ∧ ∀ w' y G', Here B w' b (o + k) y G' → Step w w' b (o + k) B.n G G' → ∃ F', Here A w' b o (set a y) F' ∧ Step w w' b o A.n F F' := by
  obtain ⟨G, h1, h2, h3⟩ := h.fieldX fl hA
  refine ⟨G, h1, h2, fun w' y G' hy hs => ?_⟩
  obtain ⟨F', p, q, _⟩ := h3 w' y G' hy hs
  exact ⟨F', p, q⟩

/-- A value stored into the one cell of a thing: what was behind it may have changed before. -/
theorem Here.put {x y : β} {G G' : List Nat} {w2 : World} {v : Value} (h : Here B w b o x G) (hn : B.n = 1) (hc : Chg (fun k => k ∈ G) w w2) (hy : B.own w2 [v] y G') (nd : G'.Nodup) (new : ∀ k ∈ G', k ∈ G ∨ w.heap.size ≤ k) :
    Here B (w2.setCell ⟨b, o, none⟩ v) b o y G' ∧ Step w (w2.setCell ⟨b, o, none⟩ v) b o 1 G G' := by
  obtain ⟨c, T, h1, h2⟩ := h.box
  have hl := B.len h2
  rw [hn] at hl h2
  simp only [List.length_take, List.length_drop, Array.length_toList] at hl
  have hb : b < w.heap.size := lt_of_block h1
  have nb : b ∉ G' := fun hx => (new b hx).elim h.nb (fun e => by omega)
  have h3 := setCell_block (i := o) v (hc.keep h1 h.nb)
  refine ⟨⟨⟨_, T, h3, ?_⟩, nb, nd⟩, ⟨?_, new, ?_⟩⟩
  · rw [hn]
    have : (((c.setIfInBounds o v).toList.drop o).take 1) = [v] := by
      have e1 : (c.setIfInBounds o v).toList = c.toList.set o v := by simp
      rw [e1]
      refine List.ext_getElem? fun j => ?_
      match j with
      | 0 => rw [take_drop_get (by omega), Nat.add_zero, List.getElem?_set_self (by simp; omega)]; rfl
      | j + 1 => rw [List.getElem?_take, if_neg (by omega)]; rfl
    rw [this]
    exact B.chg hy (Chg.setCell w2 ⟨b, o, none⟩ v) (fun k hk e => nb (by have e' : k = b := e; rwa [e'] at hk))
  · exact (hc.mono (S' := fun k => k = b ∨ k ∈ G) (fun _ _ x => .inr x)).setCellR _ _ (fun _ => .inl rfl)
  · intro d U hd
    have h4 := hc.keep hd h.nb
    refine ⟨_, setCell_block (i := o) v h4, by simp, fun j hj => ?_⟩
    rw [Array.getElem?_setIfInBounds, if_neg (by omega)]
/-- A scalar stored. -/
theorem Here.set {f : β → List Value} {hf : ∀ a, (f a).length = 1} {x y : β} {G : List Nat} {v : Value} (h : Here (Rep.flat 1 f hf) w b o x G) (hv : f y = [v]) :
    Here (Rep.flat 1 f hf) (w.setCell ⟨b, o, none⟩ v) b o y G ∧ Step w (w.setCell ⟨b, o, none⟩ v) b o 1 G G := by
  obtain ⟨c, T, h1, h2⟩ := h.box
  have hG := h2.2
  exact h.put rfl (.refl _ _) ⟨hv.symm, hG⟩ h.nd (fun _ x => .inl x)

/-- The elements of a row. -/
theorem Here.elemX {e : TypeId} {l : List α} (h : Here (A.row e) w b o l F) (hl : 0 < l.length) :
    ∃ g off cap, w.cell? ⟨b, o, none⟩ = some (.slice (some ⟨g, off, none⟩) l.length cap) ∧ l.length ≤ cap ∧ cap ≤ maxLen ∧ g ≠ b ∧ g ∈ F ∧
      ∀ i (hi : i < l.length), ∃ G, Here A w g (off + i * A.n) l[i] G ∧ (∀ x ∈ G, x ∈ F) ∧
        ∀ w' y G', Here A w' g (off + i * A.n) y G' → Step w w' g (off + i * A.n) A.n G G' → ∃ F', Here (A.row e) w' b o (l.set i y) F' ∧ Step w w' b o 1 F F' ∧ ∀ x ∈ F', x ∈ G' ∨ (x ∈ F ∧ x ∉ G) := by
  obtain ⟨c, T, h1, v, xs, Fs, hv, hrow, hE, rfl⟩ := h.box
  obtain ⟨g, off, cap, rfl, k1, k2⟩ := hrow.addr hl
  have hcell : c.toList[o]? = some (.slice (some ⟨g, off, none⟩) l.length cap) := by
    have := congrArg (fun l => l[0]?) hv
    simp only [List.getElem?_cons_zero] at this
    rw [take_drop_get (by show 0 < 1; decide)] at this
    simpa using this
  have hnd := h.nd
  have hnb := h.nb
  rw [ownL_some] at hnd hnb ⊢
  simp only [List.singleton_append, List.nodup_cons, List.mem_cons, not_or] at hnd hnb ⊢
  refine ⟨g, off, cap, cell_of_block h1 (by simpa using hcell), k1, k2, fun e => hnb.1 e.symm, .inl rfl, ?_⟩
  intro i hi
  obtain ⟨x, G, xa, xb, Fa, Fb, q1, rfl, q3, rfl, q5⟩ := hE.at i hi
  obtain ⟨_, hr⟩ := hrow
  have hflat := hE.flat
  rcases hr with ⟨hv', _⟩ | ⟨g', off', cap', cur, hv', hg, _, _, hsz, hcur⟩
  · simp at hv'
  simp only [Value.slice.injEq, Option.some.injEq, Addr.mk.injEq, true_and] at hv'
  obtain ⟨⟨rfl, rfl, _⟩, rfl⟩ := hv'
  have hxl := A.len q1
  have hxa : xa.flatten.length = i * A.n := by
    have := (hE.length).1
    clear hcur hflat
    have h0 : ∀ (ys : List (List Value)) (zs : List α) (Gs : List (List Nat)), Each A w ys zs Gs → ∀ m, (ys.take m).flatten.length = (ys.take m).length * A.n := by
      intro ys zs Gs hh
      induction hh with
      | nil => intro m; simp
      | cons a1 _ ih => 
        intro m
        cases m with
        | zero => simp
        | succ m => rw [List.take_succ_cons, List.flatten_cons, List.length_append, ih m, A.len a1, List.length_cons, Nat.add_mul]; omega
    have h1 := h0 _ _ _ hE i
    rw [← q3, List.take_left] at h1
    rw [h1, q3]
  have hmul : (i + 1) * A.n ≤ l.length * A.n := Nat.mul_le_mul_right _ hi
  have hmul2 : l.length * A.n ≤ cap * A.n := Nat.mul_le_mul_right _ k1
  rw [Nat.add_mul, Nat.one_mul] at hmul
  have hx : (cur.toList.drop (off + i * A.n)).take A.n = x := by
    have e1 := congrArg (fun z => (z.drop (i * A.n)).take A.n) hcur
    simp only [List.flatten_append, List.flatten_cons] at e1
    rw [← hxa, List.drop_left, hxa, ← hxl, List.take_left, hxl] at e1
    rw [← e1]
    refine List.ext_getElem? fun j => ?_
    by_cases hj : j < A.n
    · rw [take_drop_get hj, take_drop_get hj, take_drop_get (by omega)]; congr 1; omega
    · rw [List.getElem?_take, if_neg hj, List.getElem?_take, if_neg hj]
  have hmem : ∀ z, z ∈ G → z ∈ (Fa ++ G :: Fb).flatten := fun z hz => by simp [hz]
  have hG : G.Nodup ∧ (∀ z ∈ G, z ∉ Fa.flatten ++ Fb.flatten) ∧ (Fa.flatten ++ Fb.flatten).Nodup := by
    have := hnd.2
    simp only [List.flatten_append, List.flatten_cons, List.nodup_append, List.mem_append] at this ⊢
    exact ⟨this.2.1.1, fun z hz hh => hh.elim (fun y => this.2.2 z y z (.inl hz) rfl) (fun y => this.2.1.2.2 z hz z y rfl), this.1, this.2.1.2.1, fun a ha b hb => this.2.2 a ha b (.inr hb)⟩
  refine ⟨G, ⟨⟨cur, e, hg, by rw [hx]; exact q1⟩, fun hh => hnd.1 (hmem _ hh), hG.1⟩, fun z hz => .inr (hmem z hz), ?_⟩
  intro w' y G' hy hs
  obtain ⟨cur', p1, p2, p3⟩ := hs.rest cur e hg
  obtain ⟨d, U, r1, r2⟩ := hy.box
  rw [p1] at r1
  simp only [Option.some.injEq, Obj.cells.injEq] at r1
  obtain ⟨rfl, rfl, _⟩ := r1
  have hgF : g ∉ Fa.flatten ++ Fb.flatten := fun hh => hnd.1 (by simp only [List.flatten_append, List.flatten_cons, List.mem_append] at hh ⊢; exact hh.imp id .inr)
  have hbg : b ≠ g := hnb.1
  have hbF : b ∉ (Fa ++ G :: Fb).flatten := hnb.2
  have hlt := hE.lt
  have hglt := lt_of_block hg
  have hblt := lt_of_block h1
  have hkeep : ∀ k ∈ Fa.flatten ++ Fb.flatten, ∀ ob, w.heap[k]? = some ob → w'.heap[k]? = some ob := by
    intro k hk ob ho
    refine hs.chg.keep ho ?_
    rintro (x | x)
    · exact hgF (x ▸ hk)
    · exact hG.2.1 k x hk
  have hE' := q5 w' _ y G' hkeep r2
  have hboxb : w'.heap[b]? = some (.cells c T (0, 0)) := hs.chg.keep h1 (fun x => x.elim hbg (fun y => hbF (hmem _ y)))
  have hG' : ∀ z ∈ G', z ∉ Fa.flatten ++ Fb.flatten := by
    intro z hz hh
    rcases hs.new z hz with x | x
    · exact hG.2.1 z x hh
    · have := hlt z (by simp only [List.flatten_append, List.flatten_cons, List.mem_append] at hh ⊢; exact hh.imp id .inr)
      omega
  refine ⟨g :: (Fa ++ G' :: Fb).flatten, ⟨⟨c, T, hboxb, .slice (some ⟨g, off, none⟩) l.length cap, _, _, hv, ?_, hE', by simp [ownL_some]⟩, ?_, ?_⟩, ⟨?_, ?_, ?_⟩, ?_⟩
  · refine ⟨by rw [hE'.flat], .inr ⟨g, off, cap, cur', by simp, p1, by simpa using k1, k2, by rw [p2]; exact hsz, ?_⟩⟩
    rw [List.length_set]
    have e1 := ext_rest (k := i * A.n) (m := A.n) (n := l.length * A.n) (o := off) p2 hmul (by omega) p3
    rw [e1, hcur]
    simp only [List.flatten_append, List.flatten_cons]
    rw [List.take_left' hxa, ← List.append_assoc, List.append_assoc]
    congr 1
    congr 1
    rw [← List.drop_drop, List.append_assoc, ← hxa, List.drop_left, ← hxl, List.drop_left]
  · simp only [List.mem_cons, not_or]
    refine ⟨hbg, fun hh => ?_⟩
    simp only [List.flatten_append, List.flatten_cons, List.mem_append] at hh hbF
    rcases hh with hh | hh | hh
    · exact hbF (.inl hh)
    · rcases hs.new b hh with x | x
      · exact hbF (.inr (.inl x))
      · omega
    · exact hbF (.inr (.inr hh))
  · simp only [List.nodup_cons]
    refine ⟨fun hh => ?_, ?_⟩
    · simp only [List.flatten_append, List.flatten_cons, List.mem_append] at hh hgF
      rcases hh with hh | hh | hh
      · exact hgF (.inl hh)
      · exact hy.nb hh
      · exact hgF (.inr hh)
    · have h3 := hG.2.2
      simp only [List.flatten_append, List.flatten_cons, List.nodup_append, List.mem_append] at h3 ⊢
      refine ⟨h3.1, ⟨hy.nd, h3.2.1, fun a ha b hb e => hG' a ha (List.mem_append_right _ (e ▸ hb))⟩, ?_⟩
      rintro a ha b (hb | hb) e
      · exact hG' b hb (List.mem_append_left _ (e ▸ ha))
      · exact h3.2.2 a ha b hb e
  · refine hs.chg.mono fun k hk x => ?_
    rcases x with x | x
    · exact .inr (by simp [x])
    · exact .inr (List.mem_cons_of_mem _ (hmem k x))
  · intro k hk
    simp only [List.flatten_append, List.flatten_cons, List.mem_append, List.mem_cons] at hk ⊢
    rcases hk with hk | hk | hk | hk
    · exact .inl (.inl hk)
    · exact .inl (.inr (.inl hk))
    · rcases hs.new k hk with x | x
      · exact .inl (.inr (.inr (.inl x)))
      · exact .inr x
    · exact .inl (.inr (.inr (.inr hk)))
  · intro d U hd
    exact ⟨d, hs.chg.keep hd (fun x => x.elim hbg (fun y => hbF (hmem _ y))), rfl, fun _ _ => rfl⟩
  · intro k hk
    have hgG : g ∉ G := fun x => hnd.1 (hmem g x)
    simp only [List.flatten_append, List.flatten_cons, List.mem_append, List.mem_cons] at hk ⊢
    rcases hk with hk | hk | hk | hk
    · exact .inr ⟨.inl hk, hk ▸ hgG⟩
    · exact .inr ⟨.inr (.inl hk), fun z => hG.2.1 k z (List.mem_append_left _ hk)⟩
    · exact .inl hk
    · exact .inr ⟨.inr (.inr (.inr hk)), fun z => hG.2.1 k z (List.mem_append_right _ hk)⟩
theorem Here.elem {e : TypeId} {l : List α} (h : Here (A.row e) w b o l F) (hl : 0 < l.length) :
    ∃ g off cap, w.cell? ⟨b, o, none⟩ = some (.slice (some ⟨g, off, none⟩) l.length cap) ∧ l.length ≤ cap ∧ cap ≤ maxLen ∧ g ≠ b ∧ g ∈ F ∧
      ∀ i (hi : i < l.length), ∃ G, Here A w g (off + i * A.n) l[i] G ∧ (∀ x ∈ G, x ∈ F) ∧
        ∀ w' y G', Here A w' g (off + i * A.n) y G' → Step w w' g (off + i * A.n) A.n G G' → ∃ F', Here (A.row e) w' b o (l.set i y) F' ∧ Step w w' b o 1 F F' := by
  obtain ⟨g, off, cap, h1, h2, h3, h4, h5, h6⟩ := h.elemX hl
  refine ⟨g, off, cap, h1, h2, h3, h4, h5, fun i hi => ?_⟩
  obtain ⟨G, k1, k2, k3⟩ := h6 i hi
  refine ⟨G, k1, k2, fun w' y G' hy hs => ?_⟩
  obtain ⟨F', p, q, _⟩ := k3 w' y G' hy hs
  exact ⟨F', p, q⟩
end
end Go.Proofs.YtiecgbmeobpomaaDoor
namespace Go.Proofs.YtiecgbmeobpomaaDoor
open Go.RowKit
set_option linter.unusedVariables false

def Rep.str : Rep ByteArray := Rep.flat 1 (fun s => [.string s]) (fun _ => rfl)
def Rep.bool : Rep Bool := Rep.flat 1 (fun s => [.bool s]) (fun _ => rfl)
def Rep.int (k : IntKind) : Rep Int := Rep.flat 1 (fun s => [.int k s]) (fun _ => rfl)
theorem flatMap_one {α β : Type} (f : α → β) (l : List α) : (l.flatMap fun a => [f a]) = l.map f := by induction l <;> simp_all

/-- A row opened: its value, the cells of its elements, what is behind them. -/
structure RowOpen {α : Type} (A : Rep α) (e : TypeId) (w : World) (v : Value) (l : List α) (F : List Nat) (xs : List (List Value)) (Fs : List (List Nat)) : Prop where
  row : RowAt w e A.n v l.length xs.flatten
  each : Each A w xs l Fs
  fp : F = ownL v ++ Fs.flatten
section
variable {α : Type} {A : Rep α} {e : TypeId} {w w1 w2 : World} {v v2 : Value} {b o : Nat} {l m : List α} {F : List Nat} {xs ys : List (List Value)} {Fs Gs : List (List Nat)}
theorem Rep.opened (h : (A.row e).own w [v] l F) : ∃ xs Fs, RowOpen A e w v l F xs Fs := by
  obtain ⟨v', xs, Fs, hv, h1, h2, h3⟩ := h
  simp only [List.cons.injEq, and_true] at hv
  subst hv
  exact ⟨xs, Fs, h1, h2, h3⟩
theorem RowOpen.own (h : RowOpen A e w v l F xs Fs) : (A.row e).own w [v] l F := ⟨v, xs, Fs, rfl, h.row, h.each, h.fp⟩
theorem RowOpen.keep (h : RowOpen A e w v l F xs Fs) {S : Nat → Prop} (hc : Chg S w w1) (hn : ∀ k ∈ F, ¬ S k) : RowOpen A e w1 v l F xs Fs := by
  refine ⟨h.row.chg hc (fun k hk => hn k ?_), h.each.keep (hc.keepAll fun k hk => hn k ?_), h.fp⟩
  · rw [h.fp]; exact List.mem_append_left _ (mem_ownL.2 hk)
  · rw [h.fp]; exact List.mem_append_right _ hk
theorem RowOpen.still (h : RowOpen A e w v l F xs Fs) (hc : Chg (fun _ => False) w w1) : RowOpen A e w1 v l F xs Fs := h.keep hc (fun _ _ x => x)
theorem Here.openRow (h : Here (A.row e) w b o l F) : ∃ v xs Fs, w.cell? ⟨b, o, none⟩ = some v ∧ RowOpen A e w v l F xs Fs := by
  obtain ⟨cs, h1, h2⟩ := h.cell
  obtain ⟨v, xs, Fs, rfl, h3, h4, h5⟩ := h1
  exact ⟨v, xs, Fs, h2 0 v rfl, h3, h4, h5⟩
theorem own_le_one (v : Value) : (ownL v).Nodup := by
  unfold ownL
  cases v.ownBlock <;> simp
/-- Elements put behind: they lie in blocks of this call. -/
theorem RowOpen.pushAll (h : RowOpen A e w v l F xs Fs) (hH : Here (A.row e) w b o l F) (h1 : Chg (fun _ => False) w w1) (hx : Each A w1 ys m Gs) (hG : ∀ k ∈ Gs.flatten, w.heap.size ≤ k) (hGn : Gs.flatten.Nodup)
    (hr : RowAt w2 e A.n v2 (l.length + m.length) (xs.flatten ++ ys.flatten)) (hc : Chg (fun k => v.ownBlock = some k) w1 w2) (hold : ∀ k, v2.ownBlock = some k → v.ownBlock = some k ∨ w1.heap.size ≤ k) :
    ∃ F', Here (A.row e) (w2.setCell ⟨b, o, none⟩ v2) b o (l ++ m) F' ∧ Step w (w2.setCell ⟨b, o, none⟩ v2) b o 1 F F' := by
  have hfp := h.fp
  have hlt := (hH.lt).2
  have hnd := hH.nd
  rw [hfp] at hlt hnd
  simp only [List.nodup_append, List.mem_append] at hlt hnd
  have hvlt : ∀ k, v.ownBlock = some k → k < w.heap.size := fun k hk => hlt k (.inl (mem_ownL.2 hk))
  have hsz := h1.size
  have hx2 := hx.keep (w' := w2) (hc.keepAll fun k hk e => by have := hG k hk; have := hvlt k e; omega)
  have he2 := (h.each.keep (h1.keepAll fun _ _ x => x)).keep (w' := w2) (hc.keepAll fun k hk e => hnd.2.2 k (mem_ownL.2 e) k hk rfl)
  have hGlt := hx.lt
  refine ⟨_, hH.put (G' := ownL v2 ++ (Fs ++ Gs).flatten) rfl ?_ ⟨v2, xs ++ ys, Fs ++ Gs, rfl, ?_, he2.append hx2, rfl⟩ ?_ ?_⟩
  · rw [hfp]
    exact h1.trans hc (fun _ _ x => x.elim) (fun i _ x => List.mem_append_left _ (mem_ownL.2 x))
  · rw [List.length_append, List.flatten_append]; exact hr
  · simp only [List.flatten_append, List.nodup_append, List.mem_append]
    refine ⟨own_le_one _, ⟨hnd.2.1, hGn, ?_⟩, ?_⟩
    · rintro a ha b hb rfl
      have := hlt a (.inr ha); have := hG a hb; omega
    · rintro a ha b hb rfl
      have ha' := hold a (mem_ownL.1 ha)
      rcases hb with hb | hb
      · rcases ha' with x | x
        · exact hnd.2.2 a (mem_ownL.2 x) a hb rfl
        · have := hlt a (.inr hb); omega
      · rcases ha' with x | x
        · have := hvlt a x; have := hG a hb; omega
        · have := hGlt a hb; omega
  · intro k hk
    rw [hfp]
    simp only [List.flatten_append, List.mem_append] at hk ⊢
    rcases hk with hk | hk | hk
    · rcases hold k (mem_ownL.1 hk) with x | x
      · exact .inl (.inl (mem_ownL.2 x))
      · exact .inr (Nat.le_trans hsz x)
    · exact .inl (.inr hk)
    · exact .inr (hG k hk)
theorem RowOpen.push {x : List Value} {a : α} {G : List Nat} (h : RowOpen A e w v l F xs Fs) (hH : Here (A.row e) w b o l F) (h1 : Chg (fun _ => False) w w1) (hx : A.own w1 x a G) (hG : ∀ k ∈ G, w.heap.size ≤ k) (hGn : G.Nodup)
    (hr : RowAt w2 e A.n v2 (l.length + 1) (xs.flatten ++ x)) (hc : Chg (fun k => v.ownBlock = some k) w1 w2) (hold : ∀ k, v2.ownBlock = some k → v.ownBlock = some k ∨ w1.heap.size ≤ k) :
    ∃ F', Here (A.row e) (w2.setCell ⟨b, o, none⟩ v2) b o (l ++ [a]) F' ∧ Step w (w2.setCell ⟨b, o, none⟩ v2) b o 1 F F' :=
  h.pushAll (ys := [x]) (m := [a]) (Gs := [G]) hH h1 (.cons hx .nil) (by simpa using hG) (by simpa using hGn) (by simpa using hr) hc hold
/-- The cells of an element. -/
theorem RowOpen.at (h : RowOpen A e w v l F xs Fs) (hl : 0 < l.length) : ∃ g off cap, v = .slice (some ⟨g, off, none⟩) l.length cap ∧ l.length ≤ cap ∧ cap ≤ maxLen ∧ g < w.heap.size ∧ g ∈ F ∧
    ∀ i (hi : i < l.length), ∃ x G, A.own w x l[i] G ∧ (∀ k ∈ G, k ∈ F) ∧ ∀ j u, x[j]? = some u → w.cell? ⟨g, off + i * A.n + j, none⟩ = some u := by
  obtain ⟨g, off, cap, rfl, k1, k2⟩ := h.row.addr hl
  refine ⟨g, off, cap, rfl, k1, k2, h.row.lt g rfl, by rw [h.fp]; simp [ownL_some], ?_⟩
  intro i hi
  obtain ⟨x, G, xa, xb, Fa, Fb, q1, q2, q3, q4, _⟩ := h.each.at i hi
  refine ⟨x, G, q1, fun k hk => by rw [h.fp, q4]; simp [hk], fun j u hu => ?_⟩
  have hj : j < A.n := by
    have := (List.getElem?_eq_some_iff.1 hu).1
    rw [A.len q1] at this; exact this
  have hxa : xa.flatten.length = i * A.n := by
    have h0 : ∀ (ys : List (List Value)) (zs : List α) (Gs : List (List Nat)), Each A w ys zs Gs → ∀ m, (ys.take m).flatten.length = (ys.take m).length * A.n := by
      intro ys zs Gs hh
      induction hh with
      | nil => intro m; simp
      | cons a1 _ ih =>
        intro m
        cases m with
        | zero => simp
        | succ m => rw [List.take_succ_cons, List.flatten_cons, List.length_append, ih m, A.len a1, List.length_cons, Nat.add_mul]; omega
    have h1 := h0 _ _ _ h.each i
    rw [q2, ← q3, List.take_left] at h1
    rw [h1, q3]
  rw [Nat.add_assoc]
  refine h.row.cellAt (i * A.n + j) u ?_
  rw [q2, List.flatten_append, List.flatten_cons, List.getElem?_append_right (by omega), hxa, show i * A.n + j - i * A.n = j from by omega, List.getElem?_append_left (by rw [A.len q1]; exact hj)]
  exact hu
theorem RowOpen.val (h : RowOpen A e w v l F xs Fs) : ∃ a cap, v = .slice a l.length cap ∧ l.length ≤ cap ∧ cap ≤ maxLen := h.row.slice
end
section
variable {α : Type} {n : Nat} {f : α → List Value} {hf : ∀ a, (f a).length = n} {e : TypeId} {w : World} {v : Value} {l : List α} {F : List Nat} {xs : List (List Value)} {Fs : List (List Nat)}
theorem RowOpen.flat (h : RowOpen (Rep.flat n f hf) e w v l F xs Fs) : RowAt w e n v l.length (l.flatMap f) ∧ xs.flatten = l.flatMap f ∧ F = ownL v := by
  obtain ⟨a, b⟩ := each_flat h.each
  have := h.row
  rw [a] at this
  exact ⟨this, a, by rw [h.fp, b, List.append_nil]⟩
end
theorem ofRow_flat {α : Type} {n : Nat} {f : α → List Value} {hf : ∀ a, (f a).length = n} {e : TypeId} {w : World} {v : Value} {l : List α} (h : RowAt w e n v l.length (l.flatMap f)) : ((Rep.flat n f hf).row e).own w [v] l (ownL v) :=
  row_flat.2 ⟨v, rfl, h, rfl⟩
/-- A thing of one's own, just made. -/
theorem Here.made {α : Type} {A : Rep α} (w : World) (T : TypeId) (cs : List Value) (a : α) (F : List Nat) (h : A.own w cs a F) (hnd : F.Nodup) : Here A (w.alloc (.cells cs.toArray T)) w.heap.size 0 a F := by
  have hl := A.len h
  refine ⟨⟨cs.toArray, T, alloc_block w _, ?_⟩, fun hh => absurd (A.lt h _ hh) (by omega), hnd⟩
  simp only [List.drop_zero, ← hl, List.take_length]
  exact A.chg h (Chg.alloc (fun _ => False) w _) (fun _ _ x => x)
end Go.Proofs.YtiecgbmeobpomaaDoor
namespace Go.Proofs.YtiecgbmeobpomaaDoor
open Go.RowKit
set_option linter.unusedVariables false

/-- A number of elements that is far from every bound; the numeral is out of the walk's sight. -/
structure Few (n : Nat) : Prop where
  lt : n < 1000000000
theorem Few.of {n : Nat} (m : Nat) (h : n ≤ m) (hm : m < 1000000000) : Few n := ⟨by omega⟩

theorem Chg.cellS {S : Nat → Prop} {w w' : World} (h : Chg S w w') {a : Addr} {v : Value} (hc : w.cell? a = some v) (hn : ¬ S a.block) : w'.cell? a = some v := by
  have hb : a.block < w.heap.size := World.block_lt_of_cell? w _ hc
  rw [World.cell?_of_block (h.block a.block hb hn)]; exact hc
section
variable {w w' : World} {b o n : Nat} {F F' : List Nat}
/-- A cell that an operation left alone. -/
theorem Step.cell (h : Step w w' b o n F F') {b' j : Nat} {u : Value} (hu : w.cell? ⟨b', j, none⟩ = some u) (hF : b' ∉ F) (hj : b' = b → (j < o ∨ o + n ≤ j)) (hbox : ∃ c T, w.heap[b]? = some (.cells c T (0, 0))) : w'.cell? ⟨b', j, none⟩ = some u := by
  by_cases hb : b' = b
  · subst hb
    obtain ⟨c, T, hc⟩ := hbox
    obtain ⟨c', h1, h2, h3⟩ := h.rest c T hc
    refine cell_of_block h1 ?_
    rw [h3 j (hj rfl)]
    have : w.cell? ⟨b', j, none⟩ = c[j]? := by simp [World.cell?, hc]
    rw [← this]; exact hu
  · exact h.chg.cellS hu (fun x => x.elim hb hF)
theorem Step.cellNe (h : Step w w' b o n F F') {b' j : Nat} {u : Value} (hu : w.cell? ⟨b', j, none⟩ = some u) (hF : b' ∉ F) (hb : b' ≠ b) : w'.cell? ⟨b', j, none⟩ = some u := h.chg.cellS hu (fun x => x.elim hb hF)
/-- A step at some of the cells is a step at more of them. -/
theorem Step.wide (h : Step w w' b o n F F') {o' n' : Nat} (h1 : o' ≤ o) (h2 : o + n ≤ o' + n') : Step w w' b o' n' F F' :=
  ⟨h.chg, h.new, fun c T hc => by
    obtain ⟨c', k1, k2, k3⟩ := h.rest c T hc
    exact ⟨c', k1, k2, fun j hj => k3 j (by omega)⟩⟩
end
section
variable {α β : Type} {A : Rep α} {B : Rep β} {w w' : World} {b o : Nat} {a : α} {F : List Nat}
theorem Here.boxed (h : Here A w b o a F) : ∃ c T, w.heap[b]? = some (.cells c T (0, 0)) := by
  obtain ⟨c, T, h1, _⟩ := h.box
  exact ⟨c, T, h1⟩
/-- A scalar field stored. -/
theorem Here.setField {k : Nat} {get : α → β} {set : α → β → α} {f : β → List Value} {hf : ∀ a, (f a).length = 1} (h : Here A w b o a F) (fl : FieldOf A (Rep.flat 1 f hf) k get set) {y : β} {v : Value} (hv : f y = [v]) :
    ∃ F', Here A (w.setCell ⟨b, o + k, none⟩ v) b o (set a y) F' ∧ Step w (w.setCell ⟨b, o + k, none⟩ v) b o A.n F F' := by
  have := fl.fits
  obtain ⟨G, h1, _, h3⟩ := h.field fl (by show 0 < A.n; have h0 : (Rep.flat 1 f hf).n = 1 := rfl; omega)
  obtain ⟨p, q⟩ := h1.set hv
  exact h3 _ y G p q
theorem Here.cells {cs : List Value} {n : Nat} {f : β → List Value} {hf : ∀ a, (f a).length = n} {y : β} (h : Here (Rep.flat n f hf) w b o y F) (j : Nat) (u : Value) (hu : (f y)[j]? = some u) : w.cell? ⟨b, o + j, none⟩ = some u := by
  obtain ⟨cs, ⟨rfl, _⟩, h2⟩ := h.cell
  exact h2 j u hu
end
/-- The number of cells, the zero and the bytes of an element's type, as the append laws ask them. -/
def Elem (P : Program) (e : TypeId) (size bytes : Nat) : Prop := ∃ i z, P.info? e = some i ∧ i.zero = some z ∧ i.size = size ∧ i.bytes = bytes ∧ z.cells.size = size
theorem elem_of {P : Program} {e : TypeId} {size bytes : Nat} (h : (P.info? e).map (fun i => (i.zero.map (fun z => z.cells.size), i.size, i.bytes)) = some (some size, size, bytes)) : Elem P e size bytes := by
  unfold Elem
  match hm : P.info? e, h with
  | some i, h =>
    simp only [Option.map_some, Option.some.injEq, Prod.mk.injEq] at h
    obtain ⟨h1, h2, h3⟩ := h
    match hz : i.zero, h1 with
    | some z, h1 => exact ⟨i, z, rfl, hz, h2, h3, by simpa [hz] using h1⟩
/-- One element of several cells appended; it lies in block g. Outside a region that draws. -/
theorem list_append_elem {P : Program} {W : World} {ops : Array Oper} {rest : List Oper} {o : Oper} {a : Act} {Q : Exit → Act → World → Prop} (hgd : o.guard = none) (s x : Operand) (t : TypeId)
    (ho : o.op = .call { callee := .builtin .append, args := #[s, x], argTypes := #[t, t] })
    (e : TypeId) (size bytes : Nat) (ht : P.underlying t = some (.slice e)) (hE : Elem P e size bytes) (hsz : 0 < size)
    (v : Value) (n : Nat) (xs : List Value) (hsv : a.eval s = v) (hown : RowAt W e size v n xs) (news : List Value) (hnl : news.length = size) (g T : Nat) (f : Nat × Nat)
    (hx : a.eval x = .slice (some ⟨g, 0, none⟩) 1 1) (hg : W.heap[g]? = some (.cells news.toArray T f)) (h1 : ∀ u ∈ news, u.oneCell' = true)
    (h63 : n + 1 ≤ maxLen) (hbytes : (n + 1) * bytes ≤ 140737488355328)
    (h : ∀ a1 n1 c1 w', RowAt w' e size (.slice a1 n1 c1) (n + 1) (xs ++ news) → Chg (fun k => v.ownBlock = some k) W w' → (∀ k, (Value.slice a1 n1 c1).ownBlock = some k → v.ownBlock = some k ∨ W.heap.size ≤ k) → wpList P ops Q rest (a.put o.dst (.slice a1 n1 c1)) w') :
    wpList P ops Q (o :: rest) a W := by
  obtain ⟨i, z, hi, hz, hsize, hby, hzs⟩ := hE
  refine wpList_append_slice W hgd s x t t ho e i z size bytes ht hi hz hsize hby hzs hsz v n xs hsv hown _ 1 news hx (Src.ofSlice _ ht _ 1 1 news (by omega) ?_ h1) h63 hbytes h
  intro j u hu
  have hadd : (⟨g, 0, none⟩ : Addr).add j = ⟨g, j, none⟩ := by unfold Addr.add; split <;> simp_all
  rw [hadd]
  exact cell_of_block hg (by simpa using hu)
/-- The same inside a region that draws its order. -/
theorem step_append_elem {P : Program} {W : World} {ops : Array Oper} {o : Oper} {a : Act} {K : Act → World → Prop} {Q : Exit → Act → World → Prop} {E : Prop} (hgd : o.guard = none) (s x : Operand) (t : TypeId)
    (ho : o.op = .call { callee := .builtin .append, args := #[s, x], argTypes := #[t, t] })
    (e : TypeId) (size bytes : Nat) (ht : P.underlying t = some (.slice e)) (hE : Elem P e size bytes) (hsz : 0 < size)
    (v : Value) (n : Nat) (xs : List Value) (hsv : a.eval s = v) (hown : RowAt W e size v n xs) (news : List Value) (hnl : news.length = size) (g T : Nat) (f : Nat × Nat)
    (hx : a.eval x = .slice (some ⟨g, 0, none⟩) 1 1) (hg : W.heap[g]? = some (.cells news.toArray T f)) (h1 : ∀ u ∈ news, u.oneCell' = true)
    (h63 : n + 1 ≤ maxLen) (hbytes : (n + 1) * bytes ≤ 140737488355328)
    (h : ∀ a1 n1 c1 w', RowAt w' e size (.slice a1 n1 c1) (n + 1) (xs ++ news) → Chg (fun k => v.ownBlock = some k) W w' → (∀ k, (Value.slice a1 n1 c1).ownBlock = some k → v.ownBlock = some k ∨ W.heap.size ≤ k) → K (a.put o.dst (.slice a1 n1 c1)) w') :
    if Region.wanted o (yielded ops a.tmps) = true then Oper.wp P o a W K Q else E := by
  obtain ⟨i, z, hi, hz, hsize, hby, hzs⟩ := hE
  refine step_append_row hgd s x t t ho e i z size bytes ht hi hz hsize hby hzs hsz v n xs hsv hown _ 1 news hx (Src.ofSlice _ ht _ 1 1 news (by omega) ?_ h1) h63 hbytes ?_
  · intro j u hu
    have hadd : (⟨g, 0, none⟩ : Addr).add j = ⟨g, j, none⟩ := by unfold Addr.add; split <;> simp_all
    rw [hadd]
    exact cell_of_block hg (by simpa using hu)
  · intro v' w' h1 h2 h3
    obtain ⟨a1, c1, rfl, _⟩ := h1.slice
    exact h a1 _ c1 w' h1 h2 h3

/-- A thing that was made behind the world w0: what was there in w0 is as it was. -/
structure Own {α : Type} (A : Rep α) (w0 w : World) (b o : Nat) (a : α) (F : List Nat) : Prop where
  here : Here A w b o a F
  chg : Chg (fun _ => False) w0 w
  lo : w0.heap.size ≤ b
  los : ∀ k ∈ F, w0.heap.size ≤ k
section
variable {α : Type} {A : Rep α} {w0 w w' : World} {b o n : Nat} {a a' : α} {F F' : List Nat}
theorem Own.step (h : Own A w0 w b o a F) (hh : Here A w' b o a' F') (hs : Step w w' b o n F F') : Own A w0 w' b o a' F' :=
  ⟨hh, h.chg.trans hs.chg (fun _ _ x => x) (fun i hi x => by have := h.lo; rcases x with x | x; omega; have := h.los i x; omega), h.lo, fun k hk => (hs.new k hk).elim (h.los k) (fun x => by have := h.chg.size; omega)⟩
theorem Own.still (h : Own A w0 w b o a F) (hc : Chg (fun _ => False) w w') : Own A w0 w' b o a F := ⟨h.here.still hc, h.chg.trans' hc, h.lo, h.los⟩
theorem Own.made (w : World) (T : TypeId) (cs : List Value) (a : α) (h : A.own w cs a []) : Own A w (w.alloc (.cells cs.toArray T)) w.heap.size 0 a [] :=
  ⟨Here.made w T cs a [] h List.nodup_nil, Chg.alloc _ _ _, Nat.le_refl _, fun k hk => by cases hk⟩
theorem Own.from (h : Own A w0 w b o a F) {w1 : World} (hc : Chg (fun _ => False) w1 w0) : Own A w1 w b o a F :=
  ⟨h.here, hc.trans' h.chg, Nat.le_trans hc.size h.lo, fun k hk => Nat.le_trans hc.size (h.los k hk)⟩
end
end Go.Proofs.YtiecgbmeobpomaaDoor
namespace Go.Proofs.YtiecgbmeobpomaaDoor
open Go.RowKit
set_option linter.unusedVariables false

/-- All that a walk asks of 'x.f = append(x.f, ..)'. -/
theorem Here.appending {α : Type} {A : Rep α} {e : TypeId} {w : World} {b o : Nat} {l : List α} {F : List Nat} (h : Here (A.row e) w b o l F) :
    ∃ a cap xs Fs, w.cell? ⟨b, o, none⟩ = some (.slice a l.length cap) ∧ RowOpen A e w (.slice a l.length cap) l F xs Fs ∧ l.length ≤ cap ∧ cap ≤ maxLen ∧ w.frozen? ⟨b, o, none⟩ = false ∧
      ∀ w1 w3, Chg (fun _ => False) w w1 → Chg (fun k => (Value.slice a l.length cap).ownBlock = some k) w1 w3 → w3.cell? ⟨b, o, none⟩ = some (.slice a l.length cap) ∧ w3.frozen? ⟨b, o, none⟩ = false := by
  obtain ⟨v, xs, Fs, hc, hopen⟩ := h.openRow
  obtain ⟨a, cap, rfl, h1, h2⟩ := hopen.val
  refine ⟨a, cap, xs, Fs, hc, hopen, h1, h2, h.frozen o, fun w1 w3 hc1 hc3 => ?_⟩
  obtain ⟨c, T, hb⟩ := h.boxed
  have hn : ¬ (Value.slice a l.length cap).ownBlock = some b := fun hk => h.nb (by rw [hopen.fp]; exact List.mem_append_left _ (mem_ownL.2 hk))
  have h3 := hc3.keep (hc1.keep hb (fun x => x)) hn
  refine ⟨cell_of_block h3 ?_, frozen_of_block h3⟩
  have : w.cell? ⟨b, o, none⟩ = c[o]? := by simp [World.cell?, hb]
  rw [← this]; exact hc
/-- The place of an element, as a pointer. -/
def rowPtr (v : Value) (n : Nat) : Option Nat → Option Addr
  | none => none
  | some i => match v with | .slice (some ⟨g, off, none⟩) _ _ => some ⟨g, off + i * n, none⟩ | _ => none
theorem rowPtr_none (v : Value) (n : Nat) : rowPtr v n none = none := rfl
theorem rowPtr_some (g off m cap n i : Nat) : rowPtr (.slice (some ⟨g, off, none⟩) m cap) n (some i) = some ⟨g, off + i * n, none⟩ := rfl

/-- A thing behind an operation on it. -/
def Post {α : Type} (A : Rep α) (w : World) (b o : Nat) (a' : α) (F : List Nat) (w' : World) : Prop := ∃ F', Here A w' b o a' F' ∧ Step w w' b o A.n F F'
section
variable {α β : Type} {A : Rep α} {B : Rep β} {w w' w0 w2 : World} {b o k : Nat} {a a' a2 : α} {F : List Nat} {e : TypeId}
theorem Here.same (H : Here A w b o a F) (hc : Chg (fun _ => False) w w') : Post A w b o a F w' := ⟨F, H.still hc, Step.ofChg hc⟩
theorem Post.pre (hc : Chg (fun _ => False) w0 w) (hp : Post A w b o a' F w') : Post A w0 b o a' F w' := by
  obtain ⟨F', h1, h2⟩ := hp
  exact ⟨F', h1, (Step.ofChg hc).trans h2⟩
theorem Post.after (hp : Post A w b o a' F w') (hc : Chg (fun _ => False) w' w2) : Post A w b o a' F w2 := by
  obtain ⟨F', h1, h2⟩ := hp
  exact ⟨F', h1.still hc, h2.trans (Step.ofChg hc)⟩
theorem Post.drew (hp : Post A w.drew b o a' F w') : Post A w b o a' F w' := Post.pre ((Chg.refl _ w).drewR) hp
theorem Post.then (hp : Post A w b o a' F w') (hq : ∀ F', Here A w' b o a' F' → Post A w' b o a2 F' w2) : Post A w b o a2 F w2 := by
  obtain ⟨F', h1, h2⟩ := hp
  obtain ⟨F2, h3, h4⟩ := hq F' h1
  exact ⟨F2, h3, h2.trans h4⟩
theorem Post.own (hp : Post A w b o a' F w') (H : Own A w0 w b o a F) : ∃ F', Own A w0 w' b o a' F' := by
  obtain ⟨F', h1, h2⟩ := hp
  exact ⟨F', H.step h1 h2⟩
/-- An element of a row in a field: where it lies, and the way back. -/
theorem Here.rowElem {get : α → List β} {set : α → List β → α} (fl : FieldOf A (B.row e) k get set) (hA : 0 < A.n) (H : Here A w b o a F) {g off m cap i : Nat} (hv : w.cell? ⟨b, o + k, none⟩ = some (.slice (some ⟨g, off, none⟩) m cap)) (hi : i < (get a).length) :
    ∃ G, Here B w g (off + i * B.n) (get a)[i] G ∧ g ≠ b ∧ b ∉ G ∧ (∀ x ∈ G, x ∈ F) ∧ ∀ w' y G', Here B w' g (off + i * B.n) y G' → Step w w' g (off + i * B.n) B.n G G' → Post A w b o (set a ((get a).set i y)) F w' ∧ ∀ j u, w.cell? ⟨b, j, none⟩ = some u → w'.cell? ⟨b, j, none⟩ = some u := by
  obtain ⟨G1, h1, h2, h3⟩ := H.field fl hA
  obtain ⟨g', off', cap', q1, _, _, q4, q5, q6⟩ := h1.elem (by omega)
  rw [q1] at hv
  simp only [Option.some.injEq, Value.slice.injEq, Addr.mk.injEq, and_true] at hv
  obtain ⟨⟨rfl, rfl⟩, rfl, rfl⟩ := hv
  obtain ⟨G, r1, r2, r3⟩ := q6 i hi
  have hbG : b ∉ G := fun x => h1.nb (r2 b x)
  refine ⟨G, r1, q4, hbG, fun x hx => h2 x (r2 x hx), fun w' y G' hy hs => ?_⟩
  obtain ⟨F1, s1, s2⟩ := r3 w' y G' hy hs
  exact ⟨h3 _ _ _ s1 s2, fun j u hu => hs.cellNe hu hbG (fun e => q4 e.symm)⟩
theorem Here.rowAt {get : α → List β} {set : α → List β → α} (fl : FieldOf A (B.row e) k get set) (hA : 0 < A.n) (H : Here A w b o a F) (hl : 0 < (get a).length) : ∃ g off cap, w.cell? ⟨b, o + k, none⟩ = some (.slice (some ⟨g, off, none⟩) (get a).length cap) := by
  obtain ⟨G1, h1, h2, h3⟩ := H.field fl hA
  obtain ⟨g', off', cap', q1, _⟩ := h1.elem hl
  exact ⟨g', off', cap', q1⟩
/-- A row in a field, about to be lengthened by one; and the way back. -/
theorem Here.fieldAppending {get : α → List β} {set : α → List β → α} (fl : FieldOf A (B.row e) k get set) (hA : 0 < A.n) (H : Here A w b o a F) :
    ∃ p cap xs Fs Fr, w.cell? ⟨b, o + k, none⟩ = some (.slice p (get a).length cap) ∧ RowOpen B e w (.slice p (get a).length cap) (get a) Fr xs Fs ∧ w.frozen? ⟨b, o + k, none⟩ = false ∧
      (∀ w1 w3, Chg (fun _ => False) w w1 → Chg (fun j => (Value.slice p (get a).length cap).ownBlock = some j) w1 w3 → w3.cell? ⟨b, o + k, none⟩ = some (.slice p (get a).length cap) ∧ w3.frozen? ⟨b, o + k, none⟩ = false) ∧
      ∀ w1 w3 x y G v2, Chg (fun _ => False) w w1 → B.own w1 x y G → (∀ j ∈ G, w.heap.size ≤ j) → G.Nodup → RowAt w3 e B.n v2 ((get a).length + 1) (xs.flatten ++ x) →
        Chg (fun j => (Value.slice p (get a).length cap).ownBlock = some j) w1 w3 → (∀ j, v2.ownBlock = some j → (Value.slice p (get a).length cap).ownBlock = some j ∨ w1.heap.size ≤ j) →
        Post A w b o (set a (get a ++ [y])) F (w3.setCell ⟨b, o + k, none⟩ v2) := by
  obtain ⟨G1, h1, h2, h3⟩ := H.field fl hA
  obtain ⟨p, cap, xs, Fs, q1, q2, _, _, q5, q6⟩ := h1.appending
  refine ⟨p, cap, xs, Fs, G1, q1, q2, q5, q6, fun w1 w3 x y G v2 k1 k2 k3 k4 k5 k6 k7 => ?_⟩
  obtain ⟨F', r1, r2⟩ := q2.push h1 k1 k2 k3 k4 k5 k6 k7
  exact h3 _ _ _ r1 r2
/-- A row in a field set to nil. -/
theorem Here.setNil {get : α → List β} {set : α → List β → α} (fl : FieldOf A (B.row e) k get set) (hA : 0 < A.n) (H : Here A w b o a F) : Post A w b o (set a []) F (w.setCell ⟨b, o + k, none⟩ (.slice none 0 0)) := by
  obtain ⟨G1, h1, h2, h3⟩ := H.field fl hA
  obtain ⟨p, q⟩ := h1.put (w2 := w) (v := .slice none 0 0) (y := ([] : List β)) (G' := []) rfl (.refl _ _) ⟨_, [], [], rfl, RowAt.nil _ _ _, .nil, rfl⟩ (by simp) (by simp)
  exact h3 _ _ _ p q
/-- A row of one's own stored into a field: it lies in blocks that were made behind w. -/
theorem Here.setRow {get : α → List β} {set : α → List β → α} (fl : FieldOf A (B.row e) k get set) (hA : 0 < A.n) (H : Here A w b o a F) {w1 : World} {v : Value} {l : List β} {G : List Nat} (hc : Chg (fun _ => False) w w1) (hv : (B.row e).own w1 [v] l G) (hG : ∀ j ∈ G, w.heap.size ≤ j) (hn : G.Nodup) :
    Post A w b o (set a l) F (w1.setCell ⟨b, o + k, none⟩ v) := by
  obtain ⟨G1, h1, h2, h3⟩ := H.field fl hA
  obtain ⟨p, q⟩ := h1.put (w2 := w1) (v := v) (y := l) (G' := G) rfl (hc.mono (fun _ _ x => x.elim)) hv hn (fun j hj => .inr (hG j hj))
  exact h3 _ _ _ p q
theorem Here.setPost {γ : Type} {f : γ → List Value} {hf : ∀ a, (f a).length = 1} {get : α → γ} {set : α → γ → α} (H : Here A w b o a F) (fl : FieldOf A (Rep.flat 1 f hf) k get set) {y : γ} {v : Value} (hv : f y = [v]) : Post A w b o (set a y) F (w.setCell ⟨b, o + k, none⟩ v) := H.setField fl hv
end
end Go.Proofs.YtiecgbmeobpomaaDoor
namespace Go.Proofs.YtiecgbmeobpomaaDoor
open Go.RowKit
set_option linter.unusedVariables false

/-- Each value takes one cell. -/
def Ones (cs : List Value) : Prop := ∀ u ∈ cs, u.oneCell' = true
theorem Ones.nil : Ones [] := fun u h => by cases h
theorem Ones.append {a b : List Value} (h : Ones a) (k : Ones b) : Ones (a ++ b) := fun u hu => (List.mem_append.1 hu).elim (h u) (k u)
structure One {α : Type} (A : Rep α) : Prop where
  ones : ∀ {w cs a F}, A.own w cs a F → Ones cs
section
variable {α : Type} {A : Rep α} {w : World} {xs : List (List Value)} {l : List α} {Fs : List (List Nat)}
theorem Each.ones (hA : One A) (h : Each A w xs l Fs) : Ones xs.flatten := by
  induction h with
  | nil => exact Ones.nil
  | cons h1 _ ih => rw [List.flatten_cons]; exact (hA.ones h1).append ih
theorem RowAt.one {e size n : Nat} {v : Value} {zs : List Value} (h : RowAt w e size v n zs) : v.oneCell' = true := by
  obtain ⟨a, cap, rfl, _⟩ := h.slice
  rfl
theorem One.row (A : Rep α) (e : TypeId) : One (A.row e) := ⟨fun ⟨v, xs, Fs, hv, h2, _⟩ u hu => by
  subst hv
  simp only [List.mem_singleton] at hu
  subst hu
  exact h2.one⟩
theorem One.str : One Rep.str := ⟨fun ⟨h, _⟩ u hu => by subst h; simp only [List.mem_singleton] at hu; subst hu; rfl⟩
theorem One.bool : One Rep.bool := ⟨fun ⟨h, _⟩ u hu => by subst h; simp only [List.mem_singleton] at hu; subst hu; rfl⟩
theorem One.int (k : IntKind) : One (Rep.int k) := ⟨fun ⟨h, _⟩ u hu => by subst h; simp only [List.mem_singleton] at hu; subst hu; rfl⟩
end
/-- A row as the second argument of append. -/
theorem Src.ofRow {P : Program} {w : World} {t e e' size n : Nat} {v : Value} {xs : List Value} (hk : P.underlying t = some (.slice e')) (h : RowAt w e size v n xs) (h1 : Ones xs) : Src P size t v n xs w := by
  obtain ⟨a, cap, rfl, -⟩ := h.slice
  cases a with
  | none =>
    rcases h.2 with ⟨hv, rfl⟩ | ⟨g, off, c, cur, hv, -⟩
    · have hx : xs = [] := List.eq_nil_of_length_eq_zero (by simpa using h.1)
      subst hx
      exact Src.ofNil _ hk cap
    · simp at hv
  | some ad => exact Src.ofSlice _ hk ad n cap xs h.1 (h.cells rfl) h1
/-- A whole row appended. Outside a region that draws. -/
theorem list_append_rows {P : Program} {W : World} {ops : Array Oper} {rest : List Oper} {o : Oper} {a : Act} {Q : Exit → Act → World → Prop} (hgd : o.guard = none) (s x : Operand) (t : TypeId)
    (ho : o.op = .call { callee := .builtin .append, args := #[s, x], argTypes := #[t, t] })
    (e : TypeId) (size bytes : Nat) (ht : P.underlying t = some (.slice e)) (hE : Elem P e size bytes) (hsz : 0 < size)
    (v : Value) (n : Nat) (xs : List Value) (hsv : a.eval s = v) (hown : RowAt W e size v n xs) (xv : Value) (m : Nat) (news : List Value) (hx : a.eval x = xv) (hxr : RowAt W e size xv m news) (h1 : Ones news)
    (h63 : n + m ≤ maxLen) (hbytes : (n + m) * bytes ≤ 140737488355328)
    (h : ∀ a1 n1 c1 w', RowAt w' e size (.slice a1 n1 c1) (n + m) (xs ++ news) → Chg (fun k => v.ownBlock = some k) W w' → (∀ k, (Value.slice a1 n1 c1).ownBlock = some k → v.ownBlock = some k ∨ W.heap.size ≤ k) → wpList P ops Q rest (a.put o.dst (.slice a1 n1 c1)) w') :
    wpList P ops Q (o :: rest) a W := by
  obtain ⟨i, z, hi, hz, hsize, hby, hzs⟩ := hE
  exact wpList_append_slice W hgd s x t t ho e i z size bytes ht hi hz hsize hby hzs hsz v n xs hsv hown _ m news hx (Src.ofRow ht hxr h1) h63 hbytes h
/-- The same inside a region that draws its order. -/
theorem step_append_rows {P : Program} {W : World} {ops : Array Oper} {o : Oper} {a : Act} {K : Act → World → Prop} {Q : Exit → Act → World → Prop} {E : Prop} (hgd : o.guard = none) (s x : Operand) (t : TypeId)
    (ho : o.op = .call { callee := .builtin .append, args := #[s, x], argTypes := #[t, t] })
    (e : TypeId) (size bytes : Nat) (ht : P.underlying t = some (.slice e)) (hE : Elem P e size bytes) (hsz : 0 < size)
    (v : Value) (n : Nat) (xs : List Value) (hsv : a.eval s = v) (hown : RowAt W e size v n xs) (xv : Value) (m : Nat) (news : List Value) (hx : a.eval x = xv) (hxr : RowAt W e size xv m news) (h1 : Ones news)
    (h63 : n + m ≤ maxLen) (hbytes : (n + m) * bytes ≤ 140737488355328)
    (h : ∀ a1 n1 c1 w', RowAt w' e size (.slice a1 n1 c1) (n + m) (xs ++ news) → Chg (fun k => v.ownBlock = some k) W w' → (∀ k, (Value.slice a1 n1 c1).ownBlock = some k → v.ownBlock = some k ∨ W.heap.size ≤ k) → K (a.put o.dst (.slice a1 n1 c1)) w') :
    if Region.wanted o (yielded ops a.tmps) = true then Oper.wp P o a W K Q else E := by
  obtain ⟨i, z, hi, hz, hsize, hby, hzs⟩ := hE
  refine step_append_row hgd s x t t ho e i z size bytes ht hi hz hsize hby hzs hsz v n xs hsv hown _ m news hx (Src.ofRow ht hxr h1) h63 hbytes ?_
  intro v' w' h1 h2 h3
  obtain ⟨a1, c1, rfl, _⟩ := h1.slice
  exact h a1 _ c1 w' h1 h2 h3
/-- An empty row of one's own, just made. -/
theorem RowAt.fresh (w : World) (e size T : Nat) (hT : T = e) : RowAt (w.alloc (.cells #[] T)) e size (.slice (some ⟨w.heap.size, 0, none⟩) 0 0) 0 [] := by
  subst hT
  exact ⟨by simp, .inr ⟨w.heap.size, 0, 0, _, rfl, alloc_block w _, Nat.le_refl _, by simp, by simp, by simp⟩⟩
/-- A row with one element, just made. -/
theorem RowAt.single (w : World) (e size T : Nat) (cs : List Value) (hT : T = e) (hl : cs.length = size) : RowAt (w.alloc (.cells cs.toArray T)) e size (.slice (some ⟨w.heap.size, 0, none⟩) 1 1) 1 cs := by
  subst hT
  exact ⟨by simpa using hl, .inr ⟨w.heap.size, 0, 1, _, rfl, alloc_block w _, Nat.le_refl _, by unfold maxLen; omega, by rw [Nat.zero_add, Nat.one_mul, ← hl]; simp, by rw [List.drop_zero, Nat.one_mul, ← hl]; simp⟩⟩
theorem RowAt.freshAt (w : World) (e size g : Nat) (hg : w.heap.size = g) : RowAt (w.alloc (.cells #[] e)) e size (.slice (some ⟨g, 0, none⟩) 0 0) 0 [] := by
  subst hg; exact RowAt.fresh w e size e rfl
theorem RowAt.singleAt (w : World) (e size g : Nat) (cs : Array Value) (hg : w.heap.size = g) (hl : cs.size = size) : RowAt (w.alloc (.cells cs e)) e size (.slice (some ⟨g, 0, none⟩) 1 1) 1 cs.toList := by
  subst hg
  have := RowAt.single w e size e cs.toList rfl (by simpa using hl)
  simpa using this
/-- The first elements of a row, and the last ones. -/
theorem RowAt.prefix {w : World} {e size n m c : Nat} {a : Option Addr} {xs : List Value} (h : RowAt w e size (.slice a n c) n xs) (hm : m ≤ n) : RowAt w e size (.slice a m c) m (xs.take (m * size)) := by
  have hmul : m * size ≤ n * size := Nat.mul_le_mul_right _ hm
  have h1 := h.1
  refine ⟨by rw [List.length_take]; omega, ?_⟩
  rcases h.2 with ⟨hv, rfl⟩ | ⟨g, off, cap, cur, hv, k1, k2, k3, k4, k5⟩
  · obtain rfl : m = 0 := by omega
    exact .inl ⟨hv, rfl⟩
  · simp only [Value.slice.injEq] at hv
    obtain ⟨rfl, -, rfl⟩ := hv
    exact .inr ⟨g, off, c, cur, rfl, k1, by omega, k3, k4, by rw [← k5, List.take_take, Nat.min_eq_left hmul]⟩
def reslS (size : Nat) (p : Option Addr) (n cap d : Nat) : Value := .slice (if cap = d then p else p.map (·.add (d * size))) (n - d) (cap - d)
theorem elem_eq {P : Program} {t e : TypeId} (ht : P.underlying t = some (.slice e)) : P.elem t = e := by
  unfold Program.elem
  rw [ht]
theorem run_reslS {P : Program} (w : World) (t e size : Nat) (ht : P.underlying t = some (.slice e)) (hs : (sizeOf e).run P w = .ok size w) (p : Option Addr) (n cap : Nat) (d : Int) (h0 : 0 ≤ d) (h1 : d ≤ n) : (Instr.slice t (.slice p n cap) (some (.int .i64 d)) none none).run P w = .ok (reslS size p n cap d.toNat) w := by
  have he := elem_eq ht
  rw [run_slice_l w t p n cap (by rw [he]; exact ht) .i64 d h0 h1, he, hs]
  simp [Result.andThen, sliced, reslS]
theorem run_takeS {P : Program} (w : World) (t e size : Nat) (ht : P.underlying t = some (.slice e)) (hs : (sizeOf e).run P w = .ok size w) (p : Option Addr) (n cap : Nat) (d : Int) (h0 : 0 ≤ d) (h1 : d ≤ cap) : (Instr.slice t (.slice p n cap) none (some (.int .i64 d)) none).run P w = .ok (.slice p d.toNat cap) w := by
  have he := elem_eq ht
  rw [run_slice_h w t p n cap (by rw [he]; exact ht) .i64 d h0 h1, he, hs]
  simp [Result.andThen, sliced]
  have hadd : ∀ a : Addr, a.add 0 = a := fun a => by unfold Addr.add; split <;> simp_all
  cases p <;> simp [hadd]
theorem RowAt.suffix {w : World} {e size n d c : Nat} {a : Option Addr} {xs : List Value} (h : RowAt w e size (.slice a n c) n xs) (hd : d ≤ n) : RowAt w e size (reslS size a n c d) (n - d) (xs.drop (d * size)) := by
  have hmul : d * size ≤ n * size := Nat.mul_le_mul_right _ hd
  have h1 := h.1
  refine ⟨by rw [List.length_drop, h1, ← Nat.sub_mul], ?_⟩
  unfold reslS
  rcases h.2 with ⟨hv, rfl⟩ | ⟨g, off, cap, cur, hv, k1, k2, k3, k4, k5⟩
  · obtain rfl : d = 0 := by omega
    simp only [Value.slice.injEq] at hv
    obtain ⟨rfl, -, rfl⟩ := hv
    exact .inl ⟨by simp, rfl⟩
  · simp only [Value.slice.injEq] at hv
    obtain ⟨rfl, -, rfl⟩ := hv
    refine .inr ?_
    have hadd : (⟨g, off, none⟩ : Addr).add (d * size) = ⟨g, off + d * size, none⟩ := by unfold Addr.add; split <;> simp_all
    have hcd : d * size ≤ c * size := Nat.mul_le_mul_right _ (by omega)
    by_cases hc : c = d
    · obtain rfl : n = d := by omega
      rw [if_pos hc]
      subst hc
      refine ⟨g, off, 0, cur, by simp, k1, by omega, by omega, by omega, ?_⟩
      rw [List.drop_of_length_le (l := xs) (by omega)]; simp
    · rw [if_neg hc]
      refine ⟨g, off + d * size, c - d, cur, by simp [hadd], k1, by omega, by omega, by rw [Nat.sub_mul]; omega, ?_⟩
      rw [← k5, List.drop_take, List.drop_drop, Nat.sub_mul]
/-- The block of a value that append gave is one of this call's. -/
theorem own_ge {v v0 : Value} {W : World} {B : Nat} (h : ∀ k, v.ownBlock = some k → v0.ownBlock = some k ∨ W.heap.size ≤ k) (h0 : ∀ k, v0.ownBlock = some k → B ≤ k) (hB : B ≤ W.heap.size) : ∀ k, v.ownBlock = some k → B ≤ k :=
  fun k hk => (h k hk).elim (h0 k) (Nat.le_trans hB)
theorem own_at {B g o n c : Nat} (h : B ≤ g) : ∀ k, (Value.slice (some ⟨g, o, none⟩) n c).ownBlock = some k → B ≤ k := fun k hk => by
  have x : some g = some k := hk
  cases x
  exact h
theorem own_ne {g g2 o o2 n n2 c c2 : Nat} (h : g ≠ g2) : ∀ k, (Value.slice (some ⟨g, o, none⟩) n c).ownBlock = some k → ¬ (Value.slice (some ⟨g2, o2, none⟩) n2 c2).ownBlock = some k := fun k h1 h2 => by
  have x : some g = some k := h1
  have y : some g2 = some k := h2
  cases x
  cases y
  exact h rfl
/-- A change of blocks that are new is none of what was there. -/
theorem Chg.fresh {w w1 w2 : World} {S : Nat → Prop} (h : Chg (fun _ => False) w w1) (k : Chg S w1 w2) (hS : ∀ i, S i → w.heap.size ≤ i) : Chg (fun _ => False) w w2 :=
  h.trans k (fun _ _ x => x) (fun i hi x => by have := hS i x; omega)
section
variable {α β : Type} {A : Rep α} {B : Rep β} {w : World} {b o k : Nat} {a : α} {F : List Nat} {e : TypeId}
/-- A row in a field, about to be copied, lengthened by one and stored anew. -/
theorem Here.fieldCopy {get : α → List β} {set : α → List β → α} (fl : FieldOf A (B.row e) k get set) (hB : One B) (hA : 0 < A.n) (H : Here A w b o a F) :
    ∃ p cap xs, w.cell? ⟨b, o + k, none⟩ = some (.slice p (get a).length cap) ∧ RowAt w e B.n (.slice p (get a).length cap) (get a).length xs ∧ Ones xs ∧ (get a).length ≤ cap ∧ cap ≤ maxLen ∧ w.frozen? ⟨b, o + k, none⟩ = false ∧
      ∀ w3 x y v3, Chg (fun _ => False) w w3 → B.own w3 x y [] → RowAt w3 e B.n v3 ((get a).length + 1) (xs ++ x) → (∀ j, v3.ownBlock = some j → w.heap.size ≤ j) → Post A w b o (set a (get a ++ [y])) F (w3.setCell ⟨b, o + k, none⟩ v3) := by
  obtain ⟨G1, h1, h2, h3⟩ := H.field fl hA
  obtain ⟨v, xs, Fs, hc, hopen⟩ := h1.openRow
  obtain ⟨p, cap, rfl, hc1, hc2⟩ := hopen.val
  refine ⟨p, cap, xs.flatten, hc, hopen.row, hopen.each.ones hB, hc1, hc2, H.frozen _, fun w3 x y v3 k1 k2 k3 k4 => ?_⟩
  have hnd := h1.nd
  have hlt := h1.lt.2
  rw [hopen.fp] at hnd hlt
  simp only [List.nodup_append, List.mem_append] at hnd hlt
  obtain ⟨q1, q2⟩ := h1.put (w2 := w3) (v := v3) (y := get a ++ [y]) (G' := ownL v3 ++ Fs.flatten) rfl (k1.mono (fun _ _ x => x.elim)) ⟨v3, xs ++ [x], Fs ++ [[]], rfl, by rw [List.length_append, List.flatten_append]; simpa using k3, (hopen.each.keep (k1.keepAll fun _ _ x => x)).append (.cons k2 .nil), by simp⟩
    (by
      rw [List.nodup_append]
      refine ⟨own_le_one _, hnd.2.1, fun i hi j hj e => ?_⟩
      have := k4 i (mem_ownL.1 hi)
      have := hlt j (.inr hj)
      omega)
    (fun j hj => by
      rcases List.mem_append.1 hj with hj | hj
      · exact .inr (k4 j (mem_ownL.1 hj))
      · exact .inl (by rw [hopen.fp]; exact List.mem_append_right _ hj))
  exact h3 _ _ _ q1 q2
end
end Go.Proofs.YtiecgbmeobpomaaDoor
namespace Go.Proofs.YtiecgbmeobpomaaDoor
set_option linter.unusedVariables false
open Go.ChangeShapes Go.WideShapes Go.ChangeAt Go.RowKit

theorem Tryd.own : ownKnob Tryd.prog.godebug = none := by kernel_rfl
theorem Tryd.laidOut : laidOutB Tryd.prog = true := by kernel_rfl
/-- Each type can be read and is a row of the table. -/
def rowed (P : Program) (ts : List TypeId) : Bool := ts.all fun t => P.readableRec t && decide (t < P.types.size)

theorem trodAll_below {H : Type} {enc : TypeId × Value → H} {P : Program} (hl : laidOutB P = true) {W W' : World} (hb : Below W.heap.size W W') :
    ∀ {ts : List TypeId} {vs : List Value} {ds : List (DataW H)} {ps : List MemPlace}, rowed P ts = true → DataW.TrodAll enc P W 0 (fun _ => true) true ts vs ds ps → (∀ x ∈ ps, x.block < W.heap.size) →
      DataW.TrodAll enc P W' 0 (fun b => decide (b < W.heap.size)) true ts vs ds ps
  | [], [], [], _, _, h, _ => h
  | t :: ts, v :: vs, d :: ds, ps, hr, ⟨p, q, h1, h2, e⟩, hlt => by
    simp only [rowed, List.all_cons, Bool.and_eq_true, decide_eq_true_eq] at hr
    exact ⟨p, q, Below.trod hl hr.1.1 hr.1.2 h1 hb (fun x hx => hlt x (by rw [e]; exact List.mem_append_left _ hx)),
      trodAll_below hl hb (by simpa [rowed] using hr.2) h2 (fun x hx => hlt x (by rw [e]; exact List.mem_append_right _ hx)), e⟩
  | [], [], _ :: _, _, _, h, _ => h.elim
  | [], _ :: _, _, _, _, h, _ => h.elim
  | _ :: _, [], _, _, _, h, _ => h.elim
  | _ :: _, _ :: _, [], _, _, h, _ => h.elim

theorem law_post {P : Program} {H : Type} {enc : TypeId × Value → H} {f : Func} {s : ChangeSpec} {W W' : World} {args : Array Value} {ds gs : List (DataW H)} {before : List MemPlace} {tb : TypeId}
    (hl : laidOutB P = true) (hts : rowed P f.params.toList = true) (hres : f.resultTypes = #[tb]) (hbool : P.underlying tb = some .bool) (hvars : s.vars = [])
    (hW : DataW.Whole enc P f.params.toList s.vars false W args.toList ds gs before) (hfn : s.fn H (ds ++ gs) = { results := [.lit (.bool true)], args := ds })
    (hb : Below W.heap.size W W') : s.post enc P f false true false false W args (.bool true) W' := by
  have hW' := hW
  have hlt : ∀ x ∈ before, x.block < W.heap.size := fun x hx => hW.lt x hx
  obtain ⟨p, q, hA, hV, rfl, hfz, hnd⟩ := hW
  refine ⟨ds, gs, p ++ q, [], p, [], hW', ?_, ?_, ?_, hb.frame _, fun h => by cases h⟩
  · rw [hfn, hres]; exact trodAll_mk1 (shut_bool hbool _)
  · rw [hfn]; exact trodAll_below hl hb hts hA (fun x hx => hlt x (List.mem_append_left _ hx))
  · rw [hfn, hvars]; rfl

/-- A law's contract lifted to its row. -/
theorem law_lift {C : Checked} {os : Os} {f : FuncId} {fn : Func} {s : ChangeSpec} {H : Type} {enc : TypeId × Value → H} {tb : TypeId} (started : os.Started)
    (own : ownKnob C.prog.godebug = none) (hl : laidOutB C.prog = true) (noInit : C.prog.inits.idxOf? f = none) (hfn : C.prog.funcs[f]? = some fn) (hts : rowed C.prog fn.params.toList = true) (hres : fn.resultTypes = #[tb]) (hbool : C.prog.underlying tb = some .bool) (hvars : s.vars = [])
    (hargs : ∀ ds : List (DataW H), ds.length = fn.params.toList.length → s.fn H ds = { results := [.lit (.bool true)], args := ds })
    (witness : ∃ (w : World) (tape : Tape) (i : Input), w.os = os ∧ (w.forCall tape i).Shaped C.prog ∧ i.vars = [] ∧ Input.okWide C.prog (w.forCall tape i) .any w.heap.size f i ∧
      s.pre6 enc C.prog fn [] false (w.forCall tape i).memory i.args ∧ Assume.holds {} C.prog (lone (Frame.enter C.prog f i.args .normal) [] (w.forCall tape i)))
    (core : ∀ (W : World) (base : Nat) (vs : List Value) (ds : List (DataW H)) (ps : List MemPlace), (∀ (j : Nat) t v, fn.params.toList[j]? = some t → vs[j]? = some v → Value.okWide C.prog W .any base t v) →
      DataW.TrodAll enc C.prog W 0 (fun _ => true) true fn.params.toList vs ds ps → (DataW.weightsEach C.prog fn.params.toList ds).all (· ≤ reachBytes) = true →
      Calls C.prog f vs.toArray W fun e W' => e = .returned (.bool true) ∧ Below W.heap.size W W') :
    ReturnsInHanded {} C os f .any (s.pre6 enc C.prog fn [] false) (s.post enc C.prog fn false true false false) := by
  refine returnsInHanded_of_change_sized (C := C) own started noInit hfn witness ?_
  intro W base args ds gs before hval hW _ hsz _
  have hW' := hW
  obtain ⟨p, q, hA, hV, rfl, hfz, hnd⟩ := hW
  rw [hvars] at hV
  obtain ⟨rfl, rfl⟩ := trodVars_none hV
  simp only [List.append_nil] at hsz
  have hlen : ds.length = fn.params.toList.length := by
    have : ∀ (ts : List TypeId) (vs : List Value) (ds : List (DataW H)) (ps : List MemPlace), DataW.TrodAll enc C.prog W 0 (fun _ => true) true ts vs ds ps → ds.length = ts.length := by
      intro ts
      induction ts with
      | nil => intro vs ds ps h; cases vs <;> cases ds <;> first | rfl | exact h.elim
      | cons t ts ih => intro vs ds ps h; cases vs <;> cases ds <;> first | exact h.elim | (obtain ⟨_, _, _, h2, _⟩ := h; simp [ih _ _ _ h2])
    exact this _ _ _ _ hA
  have hvt : s.plain.varTypes C.prog = [] := by simp [DataSpec.varTypes, ChangeSpec.plain, hvars]
  rw [hvt, List.append_nil] at hsz
  have := core W base args.toList ds p (fun j t v h1 h2 => hval j t v (by simpa using h1) (by simpa using h2)) hA hsz
  rw [Array.toArray_toList] at this
  refine this.mono fun e W' ⟨he, hb⟩ => ⟨_, he, law_post hl hts hres hbool hvars hW' (by rw [List.append_nil]; exact hargs ds hlen) hb⟩

/-- A law's contract lifted to its second row (bulk at most 1048576). -/
theorem law_lift_upto {C : Checked} {os : Os} {f : FuncId} {fn : Func} {s : ChangeSpec} {H : Type} {enc : TypeId × Value → H} {tb : TypeId} {F : Stop.Interp} (started : os.Started)
    (own : ownKnob C.prog.godebug = none) (hl : laidOutB C.prog = true) (noInit : C.prog.inits.idxOf? f = none) (hfn : C.prog.funcs[f]? = some fn) (hts : rowed C.prog fn.params.toList = true) (hres : fn.resultTypes = #[tb]) (hbool : C.prog.underlying tb = some .bool) (hvars : s.vars = [])
    (hargs : ∀ ds : List (DataW H), ds.length = fn.params.toList.length → s.fn H ds = { results := [.lit (.bool true)], args := ds })
    (witness : ∃ (w : World) (tape : Tape) (i : Input), w.os = os ∧ (w.forCall tape i).Shaped C.prog ∧ i.vars = [] ∧ Input.okWide C.prog (w.forCall tape i) .any w.heap.size f i ∧
      (Rows.OpenSpec.upto s).pre6 enc C.prog fn [] false (w.forCall tape i).memory i.args ∧ Assume.holds {} C.prog (lone (Frame.enter C.prog f i.args .normal) [] (w.forCall tape i)))
    (core : ∀ (W : World) (base : Nat) (vs : List Value) (ds : List (DataW H)) (ps : List MemPlace), (∀ (j : Nat) t v, fn.params.toList[j]? = some t → vs[j]? = some v → Value.okWide C.prog W .any base t v) →
      DataW.TrodAll enc C.prog W 0 (fun _ => true) true fn.params.toList vs ds ps → Rows.uptoBulkAll ds ≤ 1048576 →
      Calls C.prog f vs.toArray W fun e W' => e = .returned (.bool true) ∧ Below W.heap.size W W') :
    ReturnsInHanded {} C os f .any ((Rows.OpenSpec.upto s).pre6 enc C.prog fn [] false) (((Rows.OpenSpec.upto s).at F).post enc C.prog fn false true false false) := by
  refine returnsInHanded_of_cond (C := C) (s := Rows.OpenSpec.upto s) (k := Rows.uptoSmall) rfl own started noInit hfn witness ?_
  intro W base args ds gs before hval hW _ hk _
  have hW' : DataW.Whole enc C.prog fn.params.toList s.vars false W args.toList ds gs before := hW
  obtain ⟨p, q, hA, hV, rfl, hfz, hnd⟩ := hW'
  have hV' : DataW.TrodVars enc C.prog W (fun _ => true) s.vars gs q := hV
  rw [hvars] at hV'
  obtain ⟨rfl, rfl⟩ := trodVars_none hV'
  simp only [List.append_nil] at hk
  have hlen : ds.length = fn.params.toList.length := by
    have : ∀ (ts : List TypeId) (vs : List Value) (ds : List (DataW H)) (ps : List MemPlace), DataW.TrodAll enc C.prog W 0 (fun _ => true) true ts vs ds ps → ds.length = ts.length := by
      intro ts
      induction ts with
      | nil => intro vs ds ps h; cases vs <;> cases ds <;> first | rfl | exact h.elim
      | cons t ts ih => intro vs ds ps h; cases vs <;> cases ds <;> first | exact h.elim | (obtain ⟨_, _, _, h2, _⟩ := h; simp [ih _ _ _ h2])
    exact this _ _ _ _ hA
  have := core W base args.toList ds p (fun j t v h1 h2 => hval j t v (by simpa using h1) (by simpa using h2)) hA (of_decide_eq_true hk)
  rw [Array.toArray_toList] at this
  refine this.mono fun e W' ⟨he, hb⟩ => ⟨_, he, ?_⟩
  exact (law_post (s := s) hl hts hres hbool hvars hW (by rw [List.append_nil]; exact hargs ds hlen) hb)
end Go.Proofs.YtiecgbmeobpomaaDoor
namespace Go.Proofs.YtiecgbmeobpomaaDoor
open Go.ChangeShapes Go.WideShapes Go.ChangeAt Go.RowKit
set_option linter.unusedVariables false

/-- A slice that came in: its elements (one cell each) are xs. -/
def ArgRow (w : World) (v : Value) (xs : List Value) : Prop :=
  ∃ a cap, v = .slice a xs.length cap ∧ xs.length ≤ cap ∧ cap ≤ maxLen ∧ (xs ≠ [] → ∃ g off, a = some ⟨g, off, none⟩ ∧ g < w.heap.size ∧ ∀ j u, xs[j]? = some u → w.cell? ⟨g, off + j, none⟩ = some u)
theorem int_of_wf {k : IntKind} {n : Int} (h : (Lit.int k n).wf = true) : k.min ≤ n ∧ n ≤ k.max := by simpa [Lit.wf] using h

section
variable {H : Type} {enc : TypeId × Value → H} {P : Program} {w : World} {base : Nat}
theorem addr_none {w : World} {a : Addr} {v : Value} (h : w.cell? (a.add 0) = some v) : ∃ g off, a = ⟨g, off, none⟩ := by
  obtain ⟨g, off, spot⟩ := a
  have hs : spot = none := by simpa [Addr.add] using World.cell?_spot h
  exact ⟨g, off, by rw [hs]⟩
theorem add_none (g off j : Nat) : (⟨g, off, none⟩ : Addr).add j = ⟨g, off + j, none⟩ := by unfold Addr.add; split <;> simp_all
theorem argRow_of {a : Addr} {len cap : Nat} (xs : List Value) (hl : len ≤ cap) (hc : cap ≤ maxLen) (hx : cap ≤ xs.length) (h : ∀ i u, xs[i]? = some u → w.cell? (a.add i) = some u) : ArgRow w (.slice (some a) len cap) (xs.take len) := by
  have hlen : (xs.take len).length = len := by simp; omega
  refine ⟨some a, cap, by rw [hlen], by omega, hc, fun hne => ?_⟩
  have h0 : 0 < len := by
    apply Nat.pos_of_ne_zero
    rintro rfl
    simp at hne
  have h1 : 0 < xs.length := by omega
  obtain ⟨g, off, rfl⟩ := addr_none (h 0 xs[0] (List.getElem?_eq_getElem h1))
  refine ⟨g, off, rfl, ?_, ?_⟩
  · have := World.block_lt_of_cell? w _ (h 0 xs[0] (List.getElem?_eq_getElem h1))
    simpa [add_none] using this
  · intro j u hu
    rw [List.getElem?_take] at hu
    split at hu
    · have := h j u hu
      rwa [add_none] at this
    · cases hu
theorem open_intRow {k : IntKind} {t e : TypeId} {v : Value} {d : DataW H} {ps : List MemPlace} (ht : P.underlying t = some (.slice e)) (he : P.underlying e = some (.int k)) (hc : P.cellsOf e = 1)
    (hv : Value.okWide P w .any base t v) (h : DataW.Trod enc P w 0 (fun _ => true) true t v d ps) :
    ∃ zs : List Int, ArgRow w v (zs.map (Value.int k)) ∧ (∀ z ∈ zs, k.min ≤ z ∧ z ≤ k.max) ∧ (d = .nil ∧ zs = [] ∨ ∃ rest, d = .slice (lits k zs) rest) := by
  obtain ⟨a, len, cap, rfl⟩ := okWide_slice ht hv
  obtain ⟨fuel, hf⟩ := h
  rcases open_ints ht he hc hf with ⟨hcs, hd⟩ | ⟨x, l, c, zs, hcs, _, hl, hm, hz, hd, hcell, hwz⟩
  · simp [Value.cells] at hcs
    obtain ⟨rfl, rfl, rfl⟩ := hcs
    exact ⟨[], ⟨none, 0, rfl, Nat.le_refl _, by simp, fun h => absurd rfl h⟩, by simp, .inl ⟨(Prod.mk.inj hd).1, rfl⟩⟩
  · simp [Value.cells] at hcs
    obtain ⟨rfl, rfl, rfl⟩ := hcs
    simp at hz
    refine ⟨zs.take len, ?_, fun z hz => int_of_wf (hwz z (List.mem_of_mem_take hz)), .inr ⟨_, (Prod.mk.inj hd).1⟩⟩
    rw [List.map_take]
    refine argRow_of _ hl hm (by simp; omega) ?_
    intro i u hu
    have hi : i < zs.length := by
      have := (List.getElem?_eq_some_iff.1 hu).1
      simpa using this
    rw [hcell i hi]
    simp [List.getElem?_eq_getElem hi] at hu
    simp [List.getD, hi, hu]
theorem open_strRow {t e : TypeId} {v : Value} {d : DataW H} {ps : List MemPlace} (ht : P.underlying t = some (.slice e)) (he : P.underlying e = some .string) (hc : P.cellsOf e = 1)
    (hv : Value.okWide P w .any base t v) (h : DataW.Trod enc P w 0 (fun _ => true) true t v d ps) :
    ∃ ss : List ByteArray, ArgRow w v (ss.map Value.string) ∧ (∀ z ∈ ss, z.size ≤ maxLen) ∧ (d = .nil ∧ ss = [] ∨ ∃ rest, d = .slice (strs ss) rest) := by
  obtain ⟨a, len, cap, rfl⟩ := okWide_slice ht hv
  obtain ⟨fuel, hf⟩ := h
  rcases open_strings ht he hc hf with ⟨hcs, hd⟩ | ⟨x, l, c, zs, hcs, _, hl, hm, hz, hd, hcell, hwz⟩
  · simp [Value.cells] at hcs
    obtain ⟨rfl, rfl, rfl⟩ := hcs
    exact ⟨[], ⟨none, 0, rfl, Nat.le_refl _, by simp, fun h => absurd rfl h⟩, by simp, .inl ⟨(Prod.mk.inj hd).1, rfl⟩⟩
  · simp [Value.cells] at hcs
    obtain ⟨rfl, rfl, rfl⟩ := hcs
    simp at hz
    refine ⟨zs.take len, ?_, fun z hz => hwz z (List.mem_of_mem_take hz), .inr ⟨_, (Prod.mk.inj hd).1⟩⟩
    rw [List.map_take]
    refine argRow_of _ hl hm (by simp; omega) ?_
    intro i u hu
    have hi : i < zs.length := by
      have := (List.getElem?_eq_some_iff.1 hu).1
      simpa using this
    rw [hcell i hi]
    simp [List.getElem?_eq_getElem hi] at hu
    simp [List.getD, hi, hu]
theorem open_array2 {k : IntKind} {t e : TypeId} {v : Value} {d : DataW H} {ps : List MemPlace} (ht : P.underlying t = some (.array 2 e)) (he : P.underlying e = some (.int k)) (hc : P.cellsOf e = 1) (hct : P.cellsOf t = 2)
    (hv : Value.okWide P w .any base t v) (h : DataW.Trod enc P w 0 (fun _ => true) true t v d ps) :
    ∃ x y : Int, v = .agg #[.int k x, .int k y] ∧ (k.min ≤ x ∧ x ≤ k.max) ∧ (k.min ≤ y ∧ y ≤ k.max) := by
  simp only [Value.okWide, ht] at hv
  obtain ⟨cs, rfl, hsz, _⟩ := hv
  rw [hct] at hsz
  obtain ⟨c0, c1, rfl⟩ : ∃ c0 c1, cs = #[c0, c1] := by
    obtain ⟨l⟩ := cs
    match l, hsz with
    | [c0, c1], _ => exact ⟨c0, c1, rfl⟩
  obtain ⟨fuel, hf⟩ := h
  obtain ⟨xs, m, _, _, _, hxl, hx⟩ := DataW.trod_array ht hf
  have h0 := hx 0 (by omega)
  have h1 := hx 1 (by omega)
  rw [hc, List.getElem?_eq_getElem (by omega)] at h0 h1
  simp [Value.cells] at h0 h1
  obtain ⟨n0, e0, _, w0⟩ := DataW.trod_int he h0
  obtain ⟨n1, e1, _, w1⟩ := DataW.trod_int he h1
  simp at e0 e1
  subst e0 e1
  exact ⟨n0, n1, rfl, int_of_wf w0, int_of_wf w1⟩
end
section
variable {w w' : World} {v : Value} {xs : List Value}
theorem ArgRow.keep (h : ArgRow w v xs) (hc : Chg (fun _ => False) w w') : ArgRow w' v xs := by
  obtain ⟨a, cap, rfl, h1, h2, h3⟩ := h
  refine ⟨a, cap, rfl, h1, h2, fun hne => ?_⟩
  obtain ⟨g, off, rfl, hg, hcell⟩ := h3 hne
  exact ⟨g, off, rfl, Nat.lt_of_lt_of_le hg hc.size, fun j u hu => hc.cell (hcell j u hu)⟩
end
theorem argCell {w w' : World} {a : Option Addr} {n cap : Nat} {xs : List Value} (h : ArgRow w (.slice a n cap) xs) (hc : Chg (fun _ => False) w w') {k : Nat} {u : Value} (hu : xs[k]? = some u) :
    ∃ g off, a = some ⟨g, off, none⟩ ∧ w'.cell? ⟨g, off + k, none⟩ = some u := by
  obtain ⟨a', cap', hv, h1, h2, h3⟩ := h
  cases hv
  have hne : xs ≠ [] := by rintro rfl; simp at hu
  obtain ⟨g, off, rfl, hg, hcell⟩ := h3 hne
  exact ⟨g, off, rfl, hc.cell (hcell k u hu)⟩
end Go.Proofs.YtiecgbmeobpomaaDoor
namespace Go.Proofs.YtiecgbmeobpomaaDoor
open Go.ChangeShapes Go.WideShapes Go.ChangeAt Go.RowKit
set_option linter.unusedVariables false

section
variable {H : Type} {enc : TypeId × Value → H} {P : Program} {w : World} {base : Nat} {sp : Nat → Bool} {held : Bool} {x : List Value} {y : DataW H × List MemPlace} {fuel o : Nat} {t : TypeId}
theorem one_get {v : Value} (h : (x.drop o).take 1 = [v]) : x[o]? = some v := by
  have h2 := congrArg (fun l => l[0]?) h
  simpa [List.getElem?_take, List.getElem?_drop] using h2
theorem cell_int {k : IntKind} (ht : P.underlying t = some (.int k)) (hc : P.cellsOf t = 1) (h : DataW.trod enc P w 0 sp held fuel t ((x.drop o).take (P.cellsOf t)) = some y) : ∃ n, x[o]? = some (.int k n) ∧ (k.min ≤ n ∧ n ≤ k.max) := by
  obtain ⟨n, h1, _, h2⟩ := DataW.trod_int ht h
  rw [hc] at h1
  exact ⟨n, one_get h1, int_of_wf h2⟩
theorem cell_string (ht : P.underlying t = some .string) (hc : P.cellsOf t = 1) (h : DataW.trod enc P w 0 sp held fuel t ((x.drop o).take (P.cellsOf t)) = some y) : ∃ s : ByteArray, x[o]? = some (.string s) ∧ s.size ≤ maxLen := by
  obtain ⟨s, h1, _, h2⟩ := DataW.trod_string ht h
  rw [hc] at h1
  exact ⟨s, one_get h1, h2⟩
/-- A struct that came in, cell by cell. -/
theorem open_struct {fs : Array Field} {v : Value} {d : DataW H} {ps : List MemPlace} (ht : P.underlying t = some (.struct fs)) (hv : Value.okWide P w .any base t v) (h : DataW.Trod enc P w 0 sp held t v d ps) :
    ∃ cs : Array Value, v = .agg cs ∧ cs.toList.length = P.cellsOf t ∧ ∀ (i : Nat) (f : Field), fs[i]? = some f → ∃ fuel y, DataW.trod enc P w 0 sp held fuel f.type ((cs.toList.drop f.offset).take (P.cellsOf f.type)) = some y := by
  simp only [Value.okWide, ht] at hv
  obtain ⟨cs, rfl, hsz, _⟩ := hv
  obtain ⟨n, hf⟩ := h
  obtain ⟨xs, m, _, _, _, hxl, hx⟩ := DataW.trod_struct ht hf
  refine ⟨cs, rfl, by simpa using hsz, fun i f hif => ?_⟩
  have hi : i < xs.length := by rw [hxl]; exact (Array.getElem?_eq_some_iff.1 hif).1
  exact ⟨m, xs[i], by rw [← List.getElem?_eq_getElem hi]; exact hx i f hif⟩
end
theorem list8 {x : List Value} {a b c d e f g h : Value} (hl : x.length = 8) (h0 : x[0]? = some a) (h1 : x[1]? = some b) (h2 : x[2]? = some c) (h3 : x[3]? = some d) (h4 : x[4]? = some e) (h5 : x[5]? = some f) (h6 : x[6]? = some g) (h7 : x[7]? = some h) : x = [a, b, c, d, e, f, g, h] := by
  match x, hl with
  | [_, _, _, _, _, _, _, _], _ => simp_all
end Go.Proofs.YtiecgbmeobpomaaDoor
namespace Go.Proofs.YtiecgbmeobpomaaDoor
open Go.ChangeShapes Go.WideShapes Go.ChangeAt Go.RowKit
set_option linter.unusedVariables false

/-- A slice that came in: its elements (n cells each) are xs. -/
def ArgRows (w : World) (v : Value) (n : Nat) (xs : List (List Value)) : Prop :=
  ∃ a cap, v = .slice a xs.length cap ∧ xs.length ≤ cap ∧ cap ≤ maxLen ∧ (xs ≠ [] → ∃ g off, a = some ⟨g, off, none⟩ ∧ ∀ (j i : Nat) (x : List Value) (u : Value), xs[j]? = some x → x[i]? = some u → w.cell? ⟨g, off + j * n + i, none⟩ = some u)
theorem ArgRows.keep {w w' : World} {v : Value} {n : Nat} {xs : List (List Value)} (h : ArgRows w v n xs) (hc : Chg (fun _ => False) w w') : ArgRows w' v n xs := by
  obtain ⟨a, cap, rfl, h1, h2, h3⟩ := h
  refine ⟨a, cap, rfl, h1, h2, fun hne => ?_⟩
  obtain ⟨g, off, rfl, hcell⟩ := h3 hne
  exact ⟨g, off, rfl, fun j i x u hx hu => hc.cell (hcell j i x u hx hu)⟩
section
variable {H : Type} {enc : TypeId × Value → H} {P : Program} {w : World} {base : Nat}
theorem open_rows {t e : TypeId} {fs : Array Field} {v : Value} {d : DataW H} {ps : List MemPlace} (ht : P.underlying t = some (.slice e)) (he : P.underlying e = some (.struct fs)) (hn : 0 < P.cellsOf e)
    (hv : Value.okWide P w .any base t v) (h : DataW.Trod enc P w 0 (fun _ => true) true t v d ps) :
    ∃ xs : List (List Value), ArgRows w v (P.cellsOf e) xs ∧ ∀ x ∈ xs, x.length = P.cellsOf e ∧ ∀ (i : Nat) (f : Field), fs[i]? = some f → ∃ fuel y, DataW.trod enc P w 0 (fun _ => true) true fuel f.type ((x.drop f.offset).take (P.cellsOf f.type)) = some y := by
  obtain ⟨a, len, cap, rfl⟩ := okWide_slice ht hv
  obtain ⟨fuel, hf⟩ := h
  rcases DataW.trod_slice ht hf with ⟨hcs, -⟩ | ⟨ad, len', cap', elems, rest, n, -, hcs, -, -, hl, hm, hlen, hel, -, -⟩
  · simp [Value.cells] at hcs
    obtain ⟨rfl, rfl, rfl⟩ := hcs
    exact ⟨[], ⟨none, 0, rfl, Nat.le_refl _, by simp, fun h => absurd rfl h⟩, by simp⟩
  · simp [Value.cells] at hcs
    obtain ⟨rfl, rfl, rfl⟩ := hcs
    have each : ∀ i, i < len → ∃ cs, w.cells? 0 (ad.add (i * P.cellsOf e)) (P.cellsOf e) = some cs ∧ ∃ y, DataW.trod enc P w 0 (fun _ => true) true n e cs = some y := by
      intro i hi
      have h1 := hel i hi
      rw [List.getElem?_eq_getElem (by omega), Option.bind_eq_some_iff] at h1
      obtain ⟨cs, h2, h3⟩ := h1
      exact ⟨cs, h2, _, h3⟩
    let f : Nat → List Value := fun i => (w.cells? 0 (ad.add (i * P.cellsOf e)) (P.cellsOf e)).getD []
    refine ⟨(List.range len).map f, ⟨some ad, cap, by simp, by simpa using hl, hm, fun hne => ?_⟩, fun x hx => ?_⟩
    · have h0 : 0 < len := by
        apply Nat.pos_of_ne_zero
        rintro rfl
        simp at hne
      obtain ⟨cs0, hc0, -⟩ := each 0 h0
      obtain ⟨-, hl0, hg0⟩ := World.cells?_some hc0
      have h1 := hg0 0 hn
      rw [List.getElem?_eq_getElem (by omega), Nat.zero_mul] at h1
      obtain ⟨g, off, hh⟩ := addr_none h1
      have hadd0 : ad.add 0 = ad := by obtain ⟨b', o', s'⟩ := ad; unfold Addr.add; split <;> simp_all
      rw [hadd0] at hh
      subst hh
      refine ⟨g, off, rfl, fun j i x u hj hi => ?_⟩
      rw [List.getElem?_map] at hj
      obtain ⟨k, hk, rfl⟩ := Option.map_eq_some_iff.1 hj
      obtain ⟨hk1, hk2⟩ := List.getElem?_eq_some_iff.1 hk
      rw [List.length_range] at hk1
      rw [List.getElem_range] at hk2
      subst hk2
      obtain ⟨cs, hc, -⟩ := each j hk1
      have hfx : f j = cs := by show (w.cells? 0 _ _).getD [] = cs; rw [hc]; rfl
      rw [hfx] at hi
      obtain ⟨-, hl', hg'⟩ := World.cells?_some hc
      have hi' : i < P.cellsOf e := by rw [← hl']; exact (List.getElem?_eq_some_iff.1 hi).1
      have h2 := hg' i hi'
      rw [hi, add_none, add_none] at h2
      exact h2
    · obtain ⟨i, hi, rfl⟩ := List.mem_map.1 hx
      rw [List.mem_range] at hi
      obtain ⟨cs, hc, y, hy⟩ := each i hi
      have hfx : f i = cs := by show (w.cells? 0 _ _).getD [] = cs; rw [hc]; rfl
      rw [hfx]
      obtain ⟨-, hl', -⟩ := World.cells?_some hc
      obtain ⟨ys, m, _, _, _, hxl, hx'⟩ := DataW.trod_struct he hy
      refine ⟨hl', fun k fd hk => ?_⟩
      have hki : k < ys.length := by rw [hxl]; exact (Array.getElem?_eq_some_iff.1 hk).1
      exact ⟨m, ys[k], by rw [← List.getElem?_eq_getElem hki]; exact hx' k fd hk⟩
end
end Go.Proofs.YtiecgbmeobpomaaDoor
