/-
  Lists of handles that a function makes; value.Ref, value.Of; collect.Values, without.
  Discovery in order, plainly: what is found from roots over references and weak entries; the same within a greater list.
  Marks: which objects of a heap are in a list (collect.marks).
  append, told more finely: the elements that were there stay where they were.
  Marks: has, add.
  collect.Frames: the handles in frames.
  A range over a function whose iterator makes its list first; a law of its own, and the iterator of collect.refs.
  The iterator of collect.refs.
-/
import Derived.Test.YtjianickjahdnaaDoorPHeapKeysb
import Derived.Test.YtjianickjahdnaaDoorPHeapKeysa
import Derived.Laws.IdiomCopy
import Derived.RangeFuncNested
import Derived.RangeFuncBound
import Derived.RangeFuncCalls
import Derived.RangeFuncLeaves
import Derived.OwnWalkIn
import Derived.TacticsInMore
import Derived.LoopNIn
import Derived.LoopIn
namespace Go.Proofs.YtjianickjahdnaaDoor
open Go.RowKit
set_option linter.unusedVariables false
set_option linter.unusedSimpArgs false

theorem elem_int : Elem Tryd.prog 3 1 8 := elem_of (by kernel_rfl)
def intC (l : List Int) : List Value := l.map (Value.int .i64)
theorem intC_ones (l : List Int) : Ones (intC l) := fun u hu => by
  obtain ⟨x, -, rfl⟩ := List.mem_map.1 hu
  rfl
theorem intC_len (l : List Int) : (intC l).length = l.length := List.length_map ..
/-- A list of numbers, made behind w0. -/
structure OutI (w0 w : World) (v : Value) (l : List Int) : Prop where
  row : RowAt w 3 1 v l.length (intC l)
  lo : ∀ k, v.ownBlock = some k → w0.heap.size ≤ k
  chg : Chg (fun _ => False) w0 w
section
variable {w0 w w1 w2 : World} {v : Value} {l m : List Int}
theorem OutI.nil (w : World) : OutI w w (.slice none 0 0) [] := ⟨RowAt.nil _ _ _, fun k hk => by simp [Value.ownBlock] at hk, Chg.refl _ _⟩
theorem OutI.still (h : OutI w0 w v l) (hc : Chg (fun _ => False) w w1) : OutI w0 w1 v l := ⟨h.row.chg hc (fun _ _ x => x), h.lo, h.chg.trans' hc⟩
theorem OutI.drew (h : OutI w0 w v l) : OutI w0 w.drew v l := h.still ((Chg.refl _ w).drewR)
theorem OutI.alloc (h : OutI w0 w v l) (o : _root_.Go.Obj) : OutI w0 (w.alloc o) v l := h.still (Chg.alloc _ w o)
theorem OutI.val (h : OutI w0 w v l) : ∃ a cap, v = .slice a l.length cap ∧ l.length ≤ cap ∧ cap ≤ maxLen := h.row.slice
theorem OutI.at (h : OutI w0 w v l) {k : Nat} (hk : k < l.length) : ∃ g off cap, v = .slice (some ⟨g, off, none⟩) l.length cap ∧ w.cell? ⟨g, off + k, none⟩ = some (.int .i64 l[k]) := by
  obtain ⟨g, off, cap, rfl, -, -⟩ := h.row.addr (by omega)
  exact ⟨g, off, cap, rfl, h.row.cellAt k _ (by simp [intC, hk])⟩
/-- Kept by what changes other blocks alone. -/
theorem OutI.other {S : Nat → Prop} (h : OutI w0 w v l) (hc : Chg S w w1) (hn : ∀ k, v.ownBlock = some k → ¬ S k) (hS : ∀ k, k < w0.heap.size → ¬ S k) : OutI w0 w1 v l :=
  ⟨h.row.chg hc hn, h.lo, h.chg.trans hc (fun _ _ x => x) (fun i hi x => hS i hi x)⟩
theorem OutI.lt (h : OutI w0 w v l) : ∀ k, v.ownBlock = some k → k < w.heap.size := h.row.lt
end
theorem RowAt.lit {W : World} {e size n : Nat} (cs : List Value) (h : cs.length = n * size) (hn : n ≤ maxLen) : RowAt (W.alloc (.cells cs.toArray e)) e size (.slice (some ⟨W.heap.size, 0, none⟩) n n) n cs :=
  ⟨h, .inr ⟨W.heap.size, 0, n, _, rfl, alloc_block W _, Nat.le_refl _, hn, by simp [h], by simp [← h]⟩⟩
theorem RowAt.lit2 {W : World} {A : _root_.Go.Obj} {e size n : Nat} (cs : List Value) (h : cs.length = n * size) (hn : n ≤ maxLen) : RowAt ((W.alloc A).alloc (.cells cs.toArray e)) e size (.slice (some ⟨W.heap.size + 1, 0, none⟩) n n) n cs := by
  have := RowAt.lit (W := W.alloc A) (e := e) (size := size) (n := n) cs h hn
  rwa [World.size_alloc] at this
/-- append to such a list. -/
theorem wpList_out {W w0 : World} {ops : Array Oper} {rest : List Oper} {o : Oper} {a : Act} {Q : Exit → Act → World → Prop} (hgd : o.guard = none) (s x : Operand)
    (ho : o.op = .call { callee := .builtin .append, args := #[s, x], argTypes := #[26, 26] })
    (v : Value) (l : List Int) (hsv : a.eval s = v) (H : OutI w0 W v l) (xv : Value) (m : List Int) (hx : a.eval x = xv) (hxr : RowAt W 3 1 xv m.length (intC m)) (hf : Few (l.length + m.length))
    (h : ∀ a1 n1 c1 w', OutI w0 w' (.slice a1 n1 c1) (l ++ m) → Chg (fun k => v.ownBlock = some k) W w' → (∀ k, (Value.slice a1 n1 c1).ownBlock = some k → v.ownBlock = some k ∨ W.heap.size ≤ k) → wpList Tryd.prog ops Q rest (a.put o.dst (.slice a1 n1 c1)) w') :
    wpList Tryd.prog ops Q (o :: rest) a W := by
  refine list_append_rows hgd s x 26 ho 3 1 8 Tryd.underlying26 elem_int (by decide) v l.length (intC l) hsv H.row xv m.length (intC m) hx hxr (intC_ones m) (by have := hf.lt; unfold maxLen; omega) (by have := hf.lt; omega) ?_
  intro a1 n1 c1 w' hrow hchg hold
  refine h a1 n1 c1 w' ⟨?_, fun k hk => ?_, ?_⟩ hchg hold
  · have : intC l ++ intC m = intC (l ++ m) := by simp [intC]
    rw [List.length_append, ← this]; exact hrow
  · rcases hold k hk with x | x
    · exact H.lo k x
    · exact Nat.le_trans H.chg.size x
  · exact H.chg.trans hchg (fun _ _ x => x) (fun i hi x => by have := H.lo i x; omega)

set_option maxHeartbeats 400000 in
set_option maxRecDepth 100000 in
theorem vref_any (h : Int) (w : World) :
    Calls Tryd.prog 32 #[.int .i64 h] w fun e w' => e = .returned (.agg #[.int .i64 5, .int .i64 0, .string ⟨#[]⟩, .int .i64 h]) ∧ Chg (fun _ => False) w w' := by
  go_enter Tryd.func32, Tryd.ntmps32
  go_wp2_with fail
  refine bodyPost_ret (results_cell_row rfl _ _ w.heap.size _ _ _ _ (by rfl) (heap_alloc_new _ _) Tryd.underlying36 rfl (by kernel_rfl)) rfl ?_
  exact ⟨rfl, Chg.alloc _ _ _⟩
set_option maxHeartbeats 400000 in
set_option maxRecDepth 100000 in
theorem vof_any (h : Int) (w : World) :
    Calls Tryd.prog 25 #[.int .i64 h] w fun e w' => e = .returned (.agg #[.int .i64 3, .int .i64 h, .string ⟨#[]⟩, .int .i64 0]) ∧ Chg (fun _ => False) w w' := by
  go_enter Tryd.func25, Tryd.ntmps25
  go_wp2_with fail
  refine bodyPost_ret (results_cell_row rfl _ _ w.heap.size _ _ _ _ (by rfl) (heap_alloc_new _ _) Tryd.underlying36 rfl (by kernel_rfl)) rfl ?_
  exact ⟨rfl, Chg.alloc _ _ _⟩

def refOf (v : Val) : List Int := if v.kind = 5 then [v.ref] else []
def refsV (l : List Val) : List Int := l.flatMap refOf
theorem refsV_len (l : List Val) : (refsV l).length ≤ l.length := by
  unfold refsV
  induction l with
  | nil => simp
  | cons a l ih =>
    rw [List.flatMap_cons, List.length_append, List.length_cons]
    have : (refOf a).length ≤ 1 := by unfold refOf; split <;> simp
    omega
theorem refsV_take {l : List Val} {k : Nat} (h : k < l.length) : refsV (l.take (k + 1)) = refsV (l.take k) ++ refOf l[k] := by
  unfold refsV
  rw [List.take_succ_eq_append_getElem h, List.flatMap_append]
  simp

def nz (l : List Int) : List Int := l.filter (fun x => x != 0)
theorem nz_take {l : List Int} {k : Nat} (h : k < l.length) : nz (l.take (k + 1)) = nz (l.take k) ++ nz [l[k]] := by
  unfold nz
  rw [List.take_succ_eq_append_getElem h, List.filter_append]

end Go.Proofs.YtjianickjahdnaaDoor
namespace Go.Proofs.YtjianickjahdnaaDoor
set_option linter.unusedVariables false

def addN (K : List Nat) (i : Nat) : List Nat := if i ∈ K then K else K ++ [i]
def addAll (K l : List Nat) : List Nat := l.foldl addN K
def drain (g : Nat → List Nat) : Nat → List Nat → Nat → List Nat
  | 0, K, _ => K
  | f + 1, K, p => match K[p]? with
    | some o => drain g f (addAll K (g o)) (p + 1)
    | none => K
def wkStep (K : List Nat) (p : Nat × Nat) : List Nat := if p.1 ∈ K then addN K p.2 else K
def weakP (ps : Nat → List (Nat × Nat)) (K : List Nat) : List Nat := (K.flatMap ps).foldl wkStep K
def liveK (g : Nat → List Nat) (ps : Nat → List (Nat × Nat)) (N : Nat) : Nat → List Nat → Nat → List Nat
  | 0, K, _ => K
  | f + 1, K, p => if p < K.length then liveK g ps N f (weakP ps (drain g N K p)) (drain g N K p).length else K
def liveR (g : Nat → List Nat) (ps : Nat → List (Nat × Nat)) (N : Nat) : Nat → List Nat → Nat → List Nat
  | 0, K, _ => K
  | f + 1, K, p => if (weakP ps (drain g N K p)).length = (drain g N K p).length then weakP ps (drain g N K p) else liveR g ps N f (weakP ps (drain g N K p)) (drain g N K p).length

/-- Different numbers below N. -/
structure Good (N : Nat) (K : List Nat) : Prop where
  nd : K.Nodup
  lt : ∀ i ∈ K, i < N
theorem Good.nil (N : Nat) : Good N [] := ⟨List.nodup_nil, fun _ h => by cases h⟩
theorem good_len : ∀ (N : Nat) (K : List Nat), Good N K → K.length ≤ N
  | 0, K, h => by
    cases K with
    | nil => exact Nat.le_refl _
    | cons a K => exact absurd (h.lt a (by simp)) (by omega)
  | N + 1, K, h => by
    have h1 := good_len N (K.erase N) ⟨h.nd.erase _, fun i hi => by
      have h2 := h.lt i (List.mem_of_mem_erase hi)
      have h3 : i ≠ N := fun e => by subst e; exact (List.Nodup.mem_erase_iff h.nd).1 hi |>.1 rfl
      omega⟩
    rw [List.length_erase] at h1
    split at h1 <;> omega
section
variable {N n : Nat} {K l : List Nat} {i : Nat} {g : Nat → List Nat} {ps : Nat → List (Nat × Nat)}
theorem Good.add (h : Good N K) (hi : i < N) : Good N (addN K i) := by
  unfold addN
  split
  · exact h
  · rename_i hn
    refine ⟨List.nodup_append.2 ⟨h.nd, by simp, fun a ha b hb e => ?_⟩, fun j hj => ?_⟩
    · rw [List.mem_singleton] at hb; subst hb; subst e; exact hn ha
    · rcases List.mem_append.1 hj with x | x
      · exact h.lt j x
      · rw [List.mem_singleton.1 x]; exact hi
theorem Good.all (h : Good N K) (hl : ∀ y ∈ l, y < N) : Good N (addAll K l) := by
  unfold addAll
  induction l generalizing K with
  | nil => exact h
  | cons a l ih => exact ih (h.add (hl a (by simp))) fun y hy => hl y (by simp [hy])
theorem addN_prefix (K : List Nat) (i : Nat) : K <+: addN K i := by
  unfold addN
  split
  · exact List.prefix_refl _
  · exact List.prefix_append _ _
theorem addAll_prefix (K l : List Nat) : K <+: addAll K l := by
  unfold addAll
  induction l generalizing K with
  | nil => exact List.prefix_refl _
  | cons a l ih => exact (addN_prefix K a).trans (ih _)
theorem addN_len (K : List Nat) (i : Nat) : K.length ≤ (addN K i).length := (addN_prefix K i).length_le
theorem addAll_len (K l : List Nat) : K.length ≤ (addAll K l).length := (addAll_prefix K l).length_le
theorem drain_none {f p : Nat} (h : K.length ≤ p) : drain g f K p = K := by
  cases f with
  | zero => rfl
  | succ f => simp only [drain, List.getElem?_eq_none h]
theorem drain_some {f p : Nat} (h : p < K.length) : drain g (f + 1) K p = drain g f (addAll K (g K[p])) (p + 1) := by simp only [drain, List.getElem?_eq_getElem h]
theorem drain_len : ∀ (f : Nat) (K : List Nat) (p : Nat), K.length ≤ (drain g f K p).length
  | 0, K, p => Nat.le_refl _
  | f + 1, K, p => by
    by_cases h : p < K.length
    · rw [drain_some h]; exact Nat.le_trans (addAll_len _ _) (drain_len f _ _)
    · rw [drain_none (by omega)]; exact Nat.le_refl _
theorem Good.drain (hg : ∀ o, o < N → ∀ y ∈ g o, y < N) : ∀ (f : Nat) {K : List Nat} (p : Nat), Good N K → Good N (drain g f K p)
  | 0, K, p, h => h
  | f + 1, K, p, h => by
    by_cases hp : p < K.length
    · rw [drain_some hp]; exact Good.drain hg f _ (h.all (hg _ (h.lt _ (List.getElem_mem hp))))
    · rw [drain_none (by omega)]; exact h
theorem drain_fuel (hg : ∀ o, o < N → ∀ y ∈ g o, y < N) : ∀ (f f' : Nat) {K : List Nat} (p : Nat), N - p ≤ f → N - p ≤ f' → Good N K → drain g f K p = drain g f' K p
  | 0, f', K, p, h1, h2, h => by have := good_len N K h; rw [drain_none (by omega), drain_none (by omega)]
  | f + 1, f', K, p, h1, h2, h => by
    by_cases hp : p < K.length
    · have := good_len N K h
      obtain ⟨k, rfl⟩ : ∃ k, f' = k + 1 := ⟨f' - 1, by omega⟩
      rw [drain_some hp, drain_some hp]
      exact drain_fuel hg f k _ (by omega) (by omega) (h.all (hg _ (h.lt _ (List.getElem_mem hp))))
    · rw [drain_none (by omega), drain_none (by omega)]
theorem wkStep_prefix (K : List Nat) (p : Nat × Nat) : K <+: wkStep K p := by
  unfold wkStep
  split
  · exact addN_prefix _ _
  · exact List.prefix_refl _
theorem wkAll_prefix (l : List (Nat × Nat)) (K : List Nat) : K <+: l.foldl wkStep K := by
  induction l generalizing K with
  | nil => exact List.prefix_refl _
  | cons a l ih => exact (wkStep_prefix K a).trans (ih _)
theorem weakP_len (K : List Nat) : K.length ≤ (weakP ps K).length := (wkAll_prefix _ _).length_le
theorem Good.wk {p : Nat × Nat} (h : Good N K) (hp : p.2 < N) : Good N (wkStep K p) := by
  unfold wkStep
  split
  · exact h.add hp
  · exact h
theorem Good.wkAll {l : List (Nat × Nat)} (h : Good N K) (hp : ∀ p ∈ l, p.2 < N) : Good N (l.foldl wkStep K) := by
  induction l generalizing K with
  | nil => exact h
  | cons a l ih => exact ih (h.wk (hp a (by simp))) fun p hp' => hp p (by simp [hp'])
theorem Good.weakP (hps : ∀ o, o < N → ∀ p ∈ ps o, p.2 < N) (h : Good N K) : Good N (weakP ps K) :=
  h.wkAll fun p hp => by
    obtain ⟨o, ho, hp⟩ := List.mem_flatMap.1 hp
    exact hps o (h.lt o ho) p hp
theorem liveK_done {f p : Nat} (h : K.length ≤ p) : liveK g ps N f K p = K := by
  cases f with
  | zero => rfl
  | succ f => simp only [liveK, if_neg (Nat.not_lt.2 h)]
theorem liveK_step {f p : Nat} (h : p < K.length) : liveK g ps N (f + 1) K p = liveK g ps N f (_root_.Go.Proofs.YtjianickjahdnaaDoor.weakP ps (_root_.Go.Proofs.YtjianickjahdnaaDoor.drain g N K p)) (_root_.Go.Proofs.YtjianickjahdnaaDoor.drain g N K p).length := by simp only [liveK, if_pos h]
end

/-! ### A list within a greater one: the numbers shifted by c behind the list S. -/
def emb (c : Nat) (S out : List Nat) : List Nat := S ++ out.map (c + ·)
structure Emb (c n : Nat) (S : List Nat) (g g' : Nat → List Nat) (ps ps' : Nat → List (Nat × Nat)) : Prop where
  good : Good c S
  own : ∀ s ∈ S, ∀ y ∈ g' s, y ∈ S
  none : ∀ s ∈ S, ps' s = []
  gs : ∀ j, j < n → g' (c + j) = (g j).map (c + ·)
  pss : ∀ j, j < n → ps' (c + j) = (ps j).map fun p => (c + p.1, c + p.2)
  glt : ∀ o, o < n → ∀ y ∈ g o, y < n
  plt : ∀ o, o < n → ∀ p ∈ ps o, p.2 < n
section
variable {c n : Nat} {S out : List Nat} {g g' : Nat → List Nat} {ps ps' : Nat → List (Nat × Nat)}
theorem emb_len : (emb c S out).length = S.length + out.length := by simp [emb]
theorem emb_mem (h : Good c S) (j : Nat) : c + j ∈ emb c S out ↔ j ∈ out := by
  unfold emb
  rw [List.mem_append, List.mem_map]
  constructor
  · rintro (x | ⟨y, hy, e⟩)
    · have := h.lt _ x; omega
    · have : y = j := by omega
      subst this; exact hy
  · exact fun hj => .inr ⟨j, hj, rfl⟩
theorem emb_old {s : Nat} (h : s ∈ S) : s ∈ emb c S out := List.mem_append_left _ h
theorem emb_add (h : Good c S) (j : Nat) : addN (emb c S out) (c + j) = emb c S (addN out j) := by
  unfold addN
  by_cases hj : j ∈ out
  · rw [if_pos hj, if_pos ((emb_mem h j).2 hj)]
  · rw [if_neg hj, if_neg (fun x => hj ((emb_mem h j).1 x))]
    simp [emb]
theorem emb_all (h : Good c S) : ∀ (l out : List Nat), addAll (emb c S out) (l.map (c + ·)) = emb c S (addAll out l)
  | [], out => rfl
  | a :: l, out => by
    have := emb_all h l (addN out a)
    unfold addAll at *
    rw [List.map_cons, List.foldl_cons, List.foldl_cons, emb_add h, this]
theorem addN_old {K : List Nat} {s : Nat} (h : s ∈ K) : addN K s = K := by unfold addN; rw [if_pos h]
theorem addAll_old : ∀ {l K : List Nat}, (∀ s ∈ l, s ∈ K) → addAll K l = K
  | [], K, _ => rfl
  | a :: l, K, h => by
    have := addAll_old (l := l) (K := K) fun s hs => h s (by simp [hs])
    unfold addAll at *
    rw [List.foldl_cons, addN_old (h a (by simp)), this]
theorem emb_wk (h : Good c S) (p : Nat × Nat) : wkStep (emb c S out) (c + p.1, c + p.2) = emb c S (wkStep out p) := by
  unfold wkStep
  simp only
  by_cases hj : p.1 ∈ out
  · rw [if_pos hj, if_pos ((emb_mem h _).2 hj), emb_add h]
  · rw [if_neg hj, if_neg (fun x => hj ((emb_mem h _).1 x))]
theorem emb_wks (h : Good c S) : ∀ (l : List (Nat × Nat)) (out : List Nat), (l.map fun p => (c + p.1, c + p.2)).foldl wkStep (emb c S out) = emb c S (l.foldl wkStep out)
  | [], out => rfl
  | a :: l, out => by rw [List.map_cons, List.foldl_cons, List.foldl_cons, emb_wk h, emb_wks h l]
theorem flatMap_shift (hps : ∀ j, j < n → ps' (c + j) = (ps j).map fun p => (c + p.1, c + p.2)) : ∀ (l : List Nat), (∀ j ∈ l, j < n) → (l.map (c + ·)).flatMap ps' = (l.flatMap ps).map fun p => (c + p.1, c + p.2)
  | [], _ => rfl
  | a :: l, h => by
    rw [List.map_cons, List.flatMap_cons, List.flatMap_cons, List.map_append, hps a (h a (by simp)), flatMap_shift hps l fun j hj => h j (by simp [hj])]
theorem flatMap_nil' : ∀ (l : List Nat), (∀ s ∈ l, ps' s = []) → l.flatMap ps' = []
  | [], _ => rfl
  | a :: l, h => by rw [List.flatMap_cons, h a (by simp), flatMap_nil' l fun s hs => h s (by simp [hs])]; rfl
theorem emb_weak (E : Emb c n S g g' ps ps') (ho : Good n out) : weakP ps' (emb c S out) = emb c S (weakP ps out) := by
  unfold weakP
  have h1 : (emb c S out).flatMap ps' = (out.flatMap ps).map fun p => (c + p.1, c + p.2) := by
    unfold emb
    rw [List.flatMap_append, flatMap_nil' S E.none, List.nil_append, flatMap_shift E.pss out ho.lt]
  rw [h1, emb_wks E.good]
theorem emb_at {p : Nat} (hp : p < out.length) : (emb c S out)[S.length + p]? = some (c + out[p]) := by
  unfold emb
  rw [List.getElem?_append_right (by omega), show S.length + p - S.length = p from by omega, List.getElem?_map, List.getElem?_eq_getElem hp]
  rfl
theorem emb_drain (E : Emb c n S g g' ps ps') : ∀ (f : Nat) {out : List Nat} (p : Nat), Good n out → drain g' f (emb c S out) (S.length + p) = emb c S (drain g f out p)
  | 0, out, p, _ => rfl
  | f + 1, out, p, ho => by
    by_cases hp : p < out.length
    · have h1 := emb_at (c := c) (S := S) hp
      have hn := ho.lt _ (List.getElem_mem hp)
      rw [drain_some hp]
      simp only [drain, h1]
      rw [E.gs _ hn, emb_all E.good, Nat.add_assoc, emb_drain E f (p + 1) (ho.all (E.glt _ hn))]
    · rw [drain_none (K := emb c S out) (by rw [emb_len]; omega), drain_none (K := out) (by omega)]
theorem emb_skip (E : Emb c n S g g' ps ps') (f : Nat) : ∀ (k : Nat), k ≤ S.length → drain g' (f + k) (emb c S out) (S.length - k) = drain g' f (emb c S out) S.length
  | 0, _ => rfl
  | k + 1, hk => by
    have hs : S.length - (k + 1) < S.length := by omega
    have h1 : (emb c S out)[S.length - (k + 1)]? = some S[S.length - (k + 1)] := by
      unfold emb
      rw [List.getElem?_append_left hs, List.getElem?_eq_getElem hs]
    rw [← Nat.add_assoc]
    simp only [drain, h1]
    rw [addAll_old fun y hy => emb_old (E.own _ (List.getElem_mem hs) y hy), show S.length - (k + 1) + 1 = S.length - k from by omega]
    exact emb_skip E f k (by omega)
theorem live_rest (E : Emb c n S g g' ps ps') : ∀ (f f' N' : Nat) {out : List Nat} (p : Nat), (p < out.length ∨ out = []) → n + 1 - p ≤ f → n - p ≤ f' → n ≤ N' → Good n out →
    liveK g' ps' N' f' (emb c S out) (S.length + p) = emb c S (liveR g ps n f out p)
  | 0, f', N', out, p, hp, h1, h2, h3, ho => by
    have h4 := good_len n out ho
    rcases hp with hp | hp
    · omega
    · subst hp
      rw [liveK_done (by rw [emb_len]; simp)]
      rfl
  | f + 1, f', N', out, p, hp, h1, h2, h3, ho => by
    have h4 := good_len n out ho
    rcases hp with hp | hp
    · obtain ⟨k, rfl⟩ : ∃ k, f' = k + 1 := ⟨f' - 1, by omega⟩
      rw [liveK_step (by rw [emb_len]; omega)]
      rw [emb_drain E N' p ho, drain_fuel E.glt N' n p (by omega) (by omega) ho]
      have ho1 : Good n (drain g n out p) := Good.drain E.glt n p ho
      have hl1 := drain_len (g := g) n out p
      have ho2 := ho1.weakP E.plt
      have hl2 := weakP_len (ps := ps) (drain g n out p)
      rw [emb_weak E ho1, emb_len]
      unfold liveR
      by_cases he : (weakP ps (drain g n out p)).length = (drain g n out p).length
      · rw [if_pos he, liveK_done (by rw [emb_len]; omega)]
      · rw [if_neg he]
        exact live_rest E f k N' _ (.inl (by omega)) (by omega) (by omega) h3 ho2
    · subst hp
      rw [liveK_done (by rw [emb_len]; simp)]
      have : drain g n [] p = [] := drain_none (by simp)
      unfold liveR
      rw [this]
      rfl
/-- What is found behind S and from out is what is found from out, shifted, behind S. -/
theorem live_emb (E : Emb c n S g g' ps ps') {N' : Nat} (hN : c + n ≤ N') (ho : Good n out) : liveK g' ps' N' N' (emb c S out) 0 = emb c S (liveR g ps n (n + 1) out 0) := by
  have hc := good_len c S E.good
  by_cases hS : S = []
  · subst hS
    have := live_rest E (n + 1) N' N' (out := out) 0 (by cases out <;> simp) (by omega) (by omega) (by omega) ho
    simpa using this
  have hS1 : 0 < S.length := by cases S <;> simp_all
  obtain ⟨k, rfl⟩ : ∃ k, N' = k + 1 := ⟨N' - 1, by omega⟩
  rw [liveK_step (by rw [emb_len]; omega)]
  have h1 := emb_skip (out := out) E (k + 1 - S.length) S.length (Nat.le_refl _)
  rw [Nat.sub_self, show k + 1 - S.length + S.length = k + 1 from by omega] at h1
  have h2 : drain g' (k + 1 - S.length) (emb c S out) S.length = emb c S (drain g (k + 1 - S.length) out 0) := emb_drain E (k + 1 - S.length) 0 ho
  rw [h1, h2, drain_fuel E.glt (k + 1 - S.length) n 0 (by omega) (by omega) ho]
  have ho1 : Good n (drain g n out 0) := Good.drain E.glt n 0 ho
  have hl1 := drain_len (g := g) n out 0
  have ho2 := ho1.weakP E.plt
  have hl2 := weakP_len (ps := ps) (drain g n out 0)
  have hl3 := good_len n _ ho2
  rw [emb_weak E ho1, emb_len]
  unfold liveR
  by_cases he : (weakP ps (drain g n out 0)).length = (drain g n out 0).length
  · rw [if_pos he, liveK_done (by rw [emb_len]; omega)]
  · rw [if_neg he]
    have h0 : 0 < (weakP ps (drain g n out 0)).length := by omega
    by_cases hd : (drain g n out 0).length = 0
    · have hd' := List.eq_nil_of_length_eq_zero hd
      rw [hd'] at he
      exact absurd rfl he
    · exact live_rest E n k (k + 1) _ (.inl (by omega)) (by omega) (by omega) (by omega) ho2
end
end Go.Proofs.YtjianickjahdnaaDoor
namespace Go.Proofs.YtjianickjahdnaaDoor
open Go.RowKit
set_option linter.unusedVariables false
set_option linter.unusedSimpArgs false

structure Mk where
  h : Nat
  set : List Bool
  list : List Int
def Mk.Own (w : World) (cs : List Value) (s : Mk) (F : List Nat) : Prop :=
  ∃ v1 v2 F1 F2, cs = [.pointer (some ⟨s.h, 0, none⟩), v1, v2] ∧ (Rep.bool.row 4).own w [v1] s.set F1 ∧ ((Rep.int .i64).row 3).own w [v2] s.list F2 ∧ F = F1 ++ F2
def mkR : Rep Mk where
  n := 3
  own := Mk.Own
  len := by rintro w cs s F ⟨v1, v2, F1, F2, rfl, h1, h2, rfl⟩; rfl
  lt := by
    rintro w cs s F ⟨v1, v2, F1, F2, rfl, h1, h2, rfl⟩ k hk
    rcases List.mem_append.1 hk with x | x
    · exact (Rep.bool.row 4).lt h1 k x
    · exact ((Rep.int .i64).row 3).lt h2 k x
  keep := by
    rintro w w2 cs s F ⟨v1, v2, F1, F2, rfl, h1, h2, rfl⟩ hk
    exact ⟨v1, v2, F1, F2, rfl, (Rep.bool.row 4).keep h1 (fun k hm => hk k (List.mem_append_left _ hm)), ((Rep.int .i64).row 3).keep h2 (fun k hm => hk k (List.mem_append_right _ hm)), rfl⟩
theorem mkR_set : FieldOf mkR (Rep.bool.row 4) 1 (·.set) (fun s y => { s with set := y }) := by
  refine ⟨by show 1 + 1 ≤ 3; omega, ?_⟩
  rintro w cs s F ⟨v1, v2, F1, F2, rfl, h1, h2, rfl⟩
  refine ⟨[], F1, F2, by simp, h1, fun w2 ys y G hk hy => ?_⟩
  obtain ⟨y0, rfl⟩ : ∃ y0, ys = [y0] := List.length_eq_one_iff.1 ((Rep.bool.row 4).len hy)
  exact ⟨y0, v2, G, F2, rfl, hy, ((Rep.int .i64).row 3).keep h2 (fun k hm => hk k (by simp [hm])), by simp⟩
theorem mkR_list : FieldOf mkR ((Rep.int .i64).row 3) 2 (·.list) (fun s y => { s with list := y }) := by
  refine ⟨by show 2 + 1 ≤ 3; omega, ?_⟩
  rintro w cs s F ⟨v1, v2, F1, F2, rfl, h1, h2, rfl⟩
  refine ⟨F1, F2, [], by simp, h2, fun w2 ys y G hk hy => ?_⟩
  obtain ⟨y0, rfl⟩ : ∃ y0, ys = [y0] := List.length_eq_one_iff.1 (((Rep.int .i64).row 3).len hy)
  exact ⟨v1, y0, F1, G, rfl, (Rep.bool.row 4).keep h1 (fun k hm => hk k (by simp [hm])), hy, by simp⟩

theorem handle_of_index {b s h : Int} {i : Nat} (e : indexM b s h = (i : Int)) : handleM b s i = h ∧ (i : Int) ≤ 2147483647 := by
  unfold indexM at e
  split at e
  · omega
  · rename_i hc
    have h1 : ¬ h < normB b := fun x => hc (.inl x)
    have h2 : (h - normB b) % normB s = 0 := by
      by_cases x : (h - normB b) % normB s = 0
      · exact x
      · exact absurd (.inr (.inl x)) hc
    have h3 : ¬ 2147483647 < (h - normB b) / normB s := fun x => hc (.inr (.inr x))
    unfold handleM
    rw [if_neg (by omega)]
    have := Int.mul_ediv_add_emod (h - normB b) (normB s)
    rw [e, h2] at this
    exact ⟨by omega, by omega⟩
theorem index_of_handle (b s : Int) {i : Nat} (hi : (i : Int) ≤ 2147483647) : indexM b s (handleM b s i) = (i : Int) := by
  obtain ⟨n1, n2⟩ := normB_in b
  obtain ⟨n3, n4⟩ := normB_in s
  have hh : handleM b s i = normB b + normB s * (i : Int) := by unfold handleM; rw [if_neg (by omega)]
  rw [hh]
  unfold indexM
  have e : normB b + normB s * (i : Int) - normB b = normB s * i := by omega
  have p : 0 ≤ normB s * (i : Int) := Int.mul_nonneg (by omega) (by omega)
  rw [e, Int.mul_emod_right, Int.mul_ediv_cancel_left _ (by omega), if_neg (by omega)]
theorem handle_in (b s : Int) {i : Nat} (hi : (i : Int) ≤ 2147483647) : 1 ≤ handleM b s i ∧ handleM b s i ≤ 9223372036854775807 := by
  obtain ⟨n1, n2⟩ := normB_in b
  obtain ⟨n3, n4⟩ := normB_in s
  have p : 0 ≤ normB s * (i : Int) := Int.mul_nonneg (by omega) (by omega)
  have p1 : normB s * (i : Int) ≤ 1000 * 2147483647 := Int.mul_le_mul n4 (by omega) (by omega) (by omega)
  unfold handleM
  rw [if_neg (by omega)]
  omega

/-- The marks of the slots K, in this order. -/
def mkOf (bh : Nat) (hp : Hp) (K : List Nat) : Mk := ⟨bh, (List.range hp.slots.length).map fun i => decide (i ∈ K), K.map fun i => handleM hp.base hp.stride (i : Nat)⟩
theorem mkOf_push {bh : Nat} {hp : Hp} {K : List Nat} {i : Nat} : { ({ mkOf bh hp K with set := (mkOf bh hp K).set.set i true } : Mk) with list := (mkOf bh hp K).list ++ [handleM hp.base hp.stride (i : Nat)] } = mkOf bh hp (K ++ [i]) := by
  unfold mkOf
  simp only [List.map_append, List.map_cons, List.map_nil, Mk.mk.injEq, true_and, and_true]
  refine List.ext_getElem (by simp) fun j h1 h2 => ?_
  simp only [List.getElem_set, List.getElem_map, List.getElem_range, List.mem_append, List.mem_singleton]
  by_cases e : i = j
  · subst e; simp
  · rw [if_neg e]
    have : ¬ j = i := fun x => e x.symm
    simp [this]
/-- Different slots of the heap that are used. -/
structure KOk (hp : Hp) (K : List Nat) : Prop where
  good : Good hp.slots.length K
  used : ∀ s ∈ K, (hp.slots.getD s noSlt).used = true
theorem KOk.nil (hp : Hp) : KOk hp [] := ⟨Good.nil _, fun _ h => by cases h⟩
theorem KOk.add {hp : Hp} {K : List Nat} {i : Nat} (h : KOk hp K) (hi : i < hp.slots.length) (hu : hp.slots[i].used = true) : KOk hp (addN K i) := by
  refine ⟨h.good.add hi, fun s hs => ?_⟩
  unfold addN at hs
  split at hs
  · exact h.used s hs
  · rcases List.mem_append.1 hs with x | x
    · exact h.used s x
    · rw [List.mem_singleton.1 x, List.getD_eq_getElem?_getD, List.getElem?_eq_getElem hi]; exact hu
/-- The marks of the slots K in memory, made behind w0. -/
structure MkI (w0 w : World) (bm bh : Nat) (hp : Hp) (K : List Nat) : Prop where
  own : ∃ F, Own mkR w0 w bm 0 (mkOf bh hp K) F
  good : KOk hp K
section
variable {w0 w w' : World} {bm bh : Nat} {hp : Hp} {K : List Nat} {F : List Nat}
theorem MkI.still (h : MkI w0 w bm bh hp K) (hc : Chg (fun _ => False) w w') : MkI w0 w' bm bh hp K := by
  obtain ⟨F, ho⟩ := h.own
  exact ⟨⟨F, ho.still hc⟩, h.good⟩
theorem MkI.chg (h : MkI w0 w bm bh hp K) : Chg (fun _ => False) w0 w := by
  obtain ⟨F, ho⟩ := h.own
  exact ho.chg
theorem mkCells {m : Mk} (H : Here mkR w bm 0 m F) : w.cell? ⟨bm, 0, none⟩ = some (.pointer (some ⟨m.h, 0, none⟩)) ∧ (∃ a cap, w.cell? ⟨bm, 1, none⟩ = some (.slice a m.set.length cap)) ∧ ∃ a cap, w.cell? ⟨bm, 2, none⟩ = some (.slice a m.list.length cap) := by
  obtain ⟨cs, ⟨v1, v2, F1, F2, rfl, h1, h2, -⟩, hc⟩ := H.cell
  obtain ⟨x1, y1, p1⟩ := Rep.opened h1
  obtain ⟨a1, c1, rfl, -, -⟩ := p1.val
  obtain ⟨x2, y2, p2⟩ := Rep.opened h2
  obtain ⟨a2, c2, rfl, -, -⟩ := p2.val
  have e0 := hc 0 _ rfl
  have e1 := hc 1 _ rfl
  have e2 := hc 2 _ rfl
  simp only [Nat.zero_add] at e0 e1 e2
  exact ⟨e0, ⟨_, _, e1⟩, ⟨_, _, e2⟩⟩
theorem mkSet {m : Mk} (H : Here mkR w bm 0 m F) (hl : 0 < m.set.length) : ∃ g off cap, w.cell? ⟨bm, 1, none⟩ = some (.slice (some ⟨g, off, none⟩) m.set.length cap) ∧
    ∀ i (hi : i < m.set.length), w.cell? ⟨g, off + i, none⟩ = some (.bool m.set[i]) ∧ w.frozen? ⟨g, off + i, none⟩ = false ∧ ∀ x, Post mkR w bm 0 { m with set := m.set.set i x } F (w.setCell ⟨g, off + i, none⟩ (.bool x)) := by
  obtain ⟨g, off, cap, hv⟩ := H.rowAt mkR_set (by show 0 < 3; decide) hl
  refine ⟨g, off, cap, hv, fun i hi => ?_⟩
  obtain ⟨G, h1, -, -, -, h2⟩ := H.rowElem mkR_set (by show 0 < 3; decide) hv hi
  have e : off + i * (Rep.bool).n = off + i := by show off + i * 1 = off + i; omega
  rw [e] at h1 h2
  refine ⟨h1.cells (cs := []) 0 _ rfl, h1.frozen _, fun x => ?_⟩
  obtain ⟨p, q⟩ := h1.set (y := x) (v := .bool x) rfl
  exact (h2 _ _ _ p q).1
end

def slotI : Option Nat → Int
  | none => -1
  | some i => i

end Go.Proofs.YtjianickjahdnaaDoor
namespace Go.Proofs.YtjianickjahdnaaDoor
open Go.RowKit
set_option linter.unusedVariables false

theorem run_append_row2 {P : Program} (w : World) (t tx ty e : TypeId) (i : TypeInfo) (z : Value) (size bytes : Nat) (ht : P.underlying t = some (.slice e)) (hi : P.info? e = some i) (hz : i.zero = some z)
    (hsize : i.size = size) (hby : i.bytes = bytes) (hzs : z.cells.size = size) (hsz : 0 < size)
    (v : Value) (n : Nat) (xs : List Value) (hown : RowAt w e size v n xs) (x : Value) (m : Nat) (news : List Value) (hs : Src P size tx x m news w)
    (h63 : n + m ≤ maxLen) (hbytes : (n + m) * bytes ≤ 140737488355328) :
    ∃ v' w', (Builtin.append_ #[t, tx] ty #[v, x]).run P w = .ok v' w' ∧ RowAt w' e size v' (n + m) (xs ++ news) ∧ Chg (fun k => v.ownBlock = some k) w w' ∧
      (∀ k, v'.ownBlock = some k → v.ownBlock = some k ∨ w.heap.size ≤ k) ∧ (∀ g off c, v = .slice (some ⟨g, off, none⟩) n c → (∀ j u, j < n * size → w.cell? ⟨g, off + j, none⟩ = some u → w'.cell? ⟨g, off + j, none⟩ = some u) ∧ ((∃ c', v' = .slice (some ⟨g, off, none⟩) (n + m) c') ∨ Chg (fun _ => False) w w' ∧ ∀ k, v'.ownBlock = some k → w.heap.size ≤ k)) := by
  subst hsize
  subst hby
  have hlen : (xs ++ news).length = (n + m) * i.size := by rw [List.length_append, hown.1, hs.newsLen, Nat.add_mul]
  have grow : ∀ (base : Option Addr) (cap : Nat), v = .slice base n cap → cap < n + m → (Builtin.firstCells i.size n (.slice base n cap)).run P w.drew = .ok xs.toArray w.drew →
      ∃ v' w', (Builtin.append_ #[t, tx] ty #[v, x]).run P w = .ok v' w' ∧ RowAt w' e i.size v' (n + m) (xs ++ news) ∧ Chg (fun k => v.ownBlock = some k) w w' ∧
      (∀ k, v'.ownBlock = some k → v.ownBlock = some k ∨ w.heap.size ≤ k) ∧ (∀ g off c, v = .slice (some ⟨g, off, none⟩) n c → (∀ j u, j < n * i.size → w.cell? ⟨g, off + j, none⟩ = some u → w'.cell? ⟨g, off + j, none⟩ = some u) ∧ ((∃ c', v' = .slice (some ⟨g, off, none⟩) (n + m) c') ∨ Chg (fun _ => False) w w' ∧ ∀ k, v'.ownBlock = some k → w.heap.size ≤ k)) := by
    intro base cap hv hcap hold
    have hr := run_append_grow_src (P := P) w t tx ty e i z ht hi hz base n cap xs hold x m news hs hcap (by simp only [maxLen] at h63; omega) (growslice_fits hcap hbytes)
    have hge := grownCap_ge w (n + m) cap e
    have hcm : grownCap w (n + m) cap e ≤ maxLen := grownCap_le_maxLen w (n + m) cap e h63
    refine ⟨_, _, by rw [hv]; exact hr, ⟨hlen, .inr ⟨w.heap.size, 0, _, _, rfl, heap_alloc_new w.drew _, hge, hcm, ?_, ?_⟩⟩, ?_, ?_, ?_⟩
    · simp only [Array.size_append, List.size_toArray, size_zeroCells, hzs, hlen, ← Nat.add_mul]
      rw [show n + m + (grownCap w (n + m) cap e - (n + m)) = grownCap w (n + m) cap e from by omega]
      omega
    · simp only [Array.toList_append, List.drop_zero]
      rw [← hlen]
      exact List.take_left
    · exact ((Chg.refl _ w).drewR).allocR _
    · intro k hk
      simp only [Value.ownBlock, Option.some.injEq] at hk
      exact .inr (by omega)
    · intro g off c _
      refine ⟨fun j u _ hu => Chg.cell (((Chg.refl _ w).drewR).allocR _) hu, .inr ⟨((Chg.refl _ w).drewR).allocR _, fun k hk => ?_⟩⟩
      simp only [Value.ownBlock, Option.some.injEq] at hk
      omega
  rcases hown.2 with ⟨rfl, rfl⟩ | ⟨g, off, cap, cur, rfl, hg, hnc, hcm, hcs, htake⟩
  · have hx : xs = [] := List.eq_nil_of_length_eq_zero (by simpa using hown.1)
    subst hx
    by_cases hm : m = 0
    · subst hm
      have hn : news = [] := List.eq_nil_of_length_eq_zero (by simpa using hs.newsLen)
      subst hn
      refine ⟨.slice none 0 0, w, ?_, RowAt.nil w e i.size, .refl _ _, fun k hk => .inl hk, fun g off c e => by cases e⟩
      have hc := hs.cells
      rcases hs.kind with ⟨e', hk⟩ | hk <;> simp [Builtin.append_, run_underlying ht, run_underlying hk, sizeOf, typeInfo, hi, hs.len, hc]
    · exact grow none 0 rfl (by omega) (run_firstCells_none w.drew i.size 0 0 0)
  · by_cases hroom : n + m ≤ cap
    · have hmul : n * i.size + m * i.size ≤ cap * i.size := by rw [← Nat.add_mul]; exact Nat.mul_le_mul_right _ hroom
      have hfit : off + n * i.size + news.length ≤ cur.size := by rw [hs.newsLen]; omega
      have hr := run_append_room_src (P := P) w t tx ty e i ht hi g off n cap x m news hs hroom
        (fun j hj => by rw [cell_of_block hg (Array.getElem?_eq_getElem (by omega))]; rfl) (fun j _ => frozen_of_block hg)
      refine ⟨_, _, hr, ⟨hlen, .inr ⟨g, off, cap, _, rfl, setCells_block news _ hg, hroom, hcm, ?_, ?_⟩⟩, ?_, fun k hk => .inl hk, ?_⟩
      · rw [putAt_size]; exact hcs
      · rw [putAt_toList _ _ _ hfit, List.append_assoc, List.drop_append_of_le_length (by simp; omega)]
        rw [← List.append_assoc, List.drop_take, show off + n * i.size - off = n * i.size from by omega, htake, ← hlen]
        exact List.take_left
      · exact (Chg.setCells news w _).mono (fun k _ hk => by simp only [Value.ownBlock, hk])
      · intro g2 off2 c2 e2
        cases e2
        refine ⟨fun j u hj hu => ?_, .inl ⟨_, rfl⟩⟩
        rw [World.cell?_setCells_out g news _ w _ (fun _ _ => .inl (by show off + j < off + n * i.size; omega))]
        exact hu
    · refine grow (some ⟨g, off, none⟩) cap rfl (by omega) ?_
      refine run_firstCells_some w.drew i.size n ⟨g, off, none⟩ n cap xs hown.1 ?_
      intro j u hu
      have := hown.cells rfl j u hu
      simpa using this

/-- One element appended, the old ones kept. -/
theorem list_append_elem2 {P : Program} {W : World} {ops : Array Oper} {rest : List Oper} {o : Oper} {a : Act} {Q : Exit → Act → World → Prop} (hgd : o.guard = none) (s x : Operand) (t : TypeId)
    (ho : o.op = .call { callee := .builtin .append, args := #[s, x], argTypes := #[t, t] })
    (e : TypeId) (size bytes : Nat) (ht : P.underlying t = some (.slice e)) (hE : Elem P e size bytes) (hsz : 0 < size)
    (v : Value) (n : Nat) (xs : List Value) (hsv : a.eval s = v) (hown : RowAt W e size v n xs) (news : List Value) (hnl : news.length = size) (g T : Nat) (f : Nat × Nat)
    (hx : a.eval x = .slice (some ⟨g, 0, none⟩) 1 1) (hg : W.heap[g]? = some (.cells news.toArray T f)) (h1 : ∀ u ∈ news, u.oneCell' = true)
    (h63 : n + 1 ≤ maxLen) (hbytes : (n + 1) * bytes ≤ 140737488355328)
    (h : ∀ a1 n1 c1 w', RowAt w' e size (.slice a1 n1 c1) (n + 1) (xs ++ news) → Chg (fun k => v.ownBlock = some k) W w' → (∀ k, (Value.slice a1 n1 c1).ownBlock = some k → v.ownBlock = some k ∨ W.heap.size ≤ k) →
      (∀ g off c, v = .slice (some ⟨g, off, none⟩) n c → (∀ j u, j < n * size → W.cell? ⟨g, off + j, none⟩ = some u → w'.cell? ⟨g, off + j, none⟩ = some u) ∧ ((∃ c', .slice a1 n1 c1 = Value.slice (some ⟨g, off, none⟩) (n + 1) c') ∨ Chg (fun _ => False) W w' ∧ ∀ k, (Value.slice a1 n1 c1).ownBlock = some k → W.heap.size ≤ k)) → wpList P ops Q rest (a.put o.dst (.slice a1 n1 c1)) w') :
    wpList P ops Q (o :: rest) a W := by
  obtain ⟨i, z, hi, hz, hsize, hby, hzs⟩ := hE
  have hs : Src P size t (.slice (some ⟨g, 0, none⟩) 1 1) 1 news W := Src.ofSlice _ ht _ 1 1 news (by omega) (by
    intro j u hu
    have hadd : (⟨g, 0, none⟩ : Addr).add j = ⟨g, j, none⟩ := by unfold Addr.add; split <;> simp_all
    rw [hadd]
    exact cell_of_block hg (by simpa using hu)) h1
  refine wpList_plain hgd fun K hK => ?_
  obtain ⟨v', w', hr, h2, h3, h4, h5⟩ := run_append_row2 (P := P) W t t o.type e i z size bytes ht hi hz hsize hby hzs hsz v n xs hown _ 1 news hs h63 hbytes
  obtain ⟨a1, c1, rfl, -⟩ := h2.slice
  unfold Oper.wp execOp
  simp only [ho, resolve, invoke, builtin, Sem.run_bind, Sem.run_pure, Result.andThen_ok, List.map_toArray, List.map_cons, List.map_nil, hsv, hx, hr]
  exact hK _ _ (h a1 _ c1 w' h2 h3 h4 h5)
end Go.Proofs.YtjianickjahdnaaDoor
namespace Go.Proofs.YtjianickjahdnaaDoor
open Go.RowKit
set_option linter.unusedVariables false
set_option linter.unusedSimpArgs false

def hasK (hp : Hp) (K : List Nat) (h : Int) : Bool := match slotOf hp h with
  | some i => decide (i ∈ K)
  | none => false
def addK (hp : Hp) (K : List Nat) (h : Int) : List Nat := match slotOf hp h with
  | some i => addN K i
  | none => K
theorem mkOf_setlen (bh : Nat) (hp : Hp) (K : List Nat) : (mkOf bh hp K).set.length = hp.slots.length := by unfold mkOf; simp
theorem mkOf_set (bh : Nat) (hp : Hp) (K : List Nat) (i : Nat) (h : i < (mkOf bh hp K).set.length) : (mkOf bh hp K).set[i] = decide (i ∈ K) := by
  have : ∀ (L : List Bool) (hL : L = (List.range hp.slots.length).map fun i => decide (i ∈ K)) (h : i < L.length), L[i] = decide (i ∈ K) := by
    rintro L rfl h
    rw [List.getElem_map, List.getElem_range]
  exact this _ rfl h

/-- The blocks behind the marks. -/
theorem mkFoot {w : World} {bm : Nat} {m : Mk} {F : List Nat} (H : Here mkR w bm 0 m F) : ∃ v1 v2, w.cell? ⟨bm, 1, none⟩ = some v1 ∧ w.cell? ⟨bm, 2, none⟩ = some v2 ∧ F = ownL v1 ++ ownL v2 ∧ (∃ a n c, v1 = .slice a n c) ∧ ∃ a n c, v2 = .slice a n c := by
  obtain ⟨cs, ⟨v1, v2, F1, F2, rfl, h1, h2, rfl⟩, hc⟩ := H.cell
  obtain ⟨x1, e1, r1, rfl⟩ := row_flat.1 h1
  obtain rfl : v1 = x1 := by simpa using e1
  obtain ⟨x2, e2, r2, rfl⟩ := row_flat.1 h2
  obtain rfl : v2 = x2 := by simpa using e2
  have c1 := hc 1 _ rfl
  have c2 := hc 2 _ rfl
  simp only [Nat.zero_add] at c1 c2
  obtain ⟨a1, k1, rfl, -⟩ := r1.slice
  obtain ⟨a2, k2, rfl, -⟩ := r2.slice
  exact ⟨_, _, c1, c2, rfl, ⟨_, _, _, rfl⟩, ⟨_, _, _, rfl⟩⟩
/-- A beginning of the list of marks as it was at some time. -/
def Snap (w : World) (bm : Nat) (F : List Nat) (g off n : Nat) : Prop :=
  (∃ n' c', w.cell? ⟨bm, 2, none⟩ = some (.slice (some ⟨g, off, none⟩) n' c') ∧ n ≤ n') ∨ (g ∉ F ∧ g ≠ bm ∧ g < w.heap.size)
def Snaps (w w' : World) (bm : Nat) (F F' : List Nat) : Prop := ∀ g off n, Snap w bm F g off n → Snap w' bm F' g off n ∧ ∀ j x, j < n → w.cell? ⟨g, off + j, none⟩ = some (.int .i64 x) → w'.cell? ⟨g, off + j, none⟩ = some (.int .i64 x)
section
variable {w w1 w2 w3 w4 : World} {bm : Nat} {m m' : Mk} {F F' F'' : List Nat}
theorem Snaps.still (hc : Chg (fun _ => False) w w1) : Snaps w w1 bm F F := by
  rintro g off n h
  refine ⟨?_, fun j x _ hu => hc.cell hu⟩
  rcases h with ⟨n', c', h1, h2⟩ | ⟨h1, h2, h3⟩
  · exact .inl ⟨n', c', hc.cell h1, h2⟩
  · exact .inr ⟨h1, h2, Nat.lt_of_lt_of_le h3 hc.size⟩
theorem Snaps.trans (h : Snaps w w1 bm F F') (k : Snaps w1 w2 bm F' F'') : Snaps w w2 bm F F'' := by
  intro g off n hs
  obtain ⟨h1, h2⟩ := h g off n hs
  obtain ⟨k1, k2⟩ := k g off n h1
  exact ⟨k1, fun j x hj hu => k2 j x hj (h2 j x hj hu)⟩
theorem Snaps.setBool {gs os : Nat} {b : Bool} (H : Here mkR w bm 0 m F) (hq : w.cell? ⟨gs, os, none⟩ = some (.bool b)) (H' : Here mkR (w.setCell ⟨gs, os, none⟩ (.bool true)) bm 0 m' F') : Snaps w (w.setCell ⟨gs, os, none⟩ (.bool true)) bm F F' := by
  have hother : ∀ k j u, w.cell? ⟨k, j, none⟩ = some u → (∀ b, u ≠ .bool b) → (w.setCell ⟨gs, os, none⟩ (.bool true)).cell? ⟨k, j, none⟩ = some u := by
    intro k j u hu hn
    rw [World.cell?_setCell_other _ _ _ _ (by
      intro e
      rw [Addr.mk.injEq] at e
      obtain ⟨rfl, rfl, -⟩ := e
      rw [hq] at hu
      exact hn b (Option.some.inj hu).symm)]
    exact hu
  obtain ⟨v1, v2, c1, c2, hF, ⟨a1, n1, k1, rfl⟩, ⟨a2, n2, k2, rfl⟩⟩ := mkFoot H
  obtain ⟨x1, x2, d1, d2, hF', -, -⟩ := mkFoot H'
  rw [hother _ _ _ c1 (fun b e => by cases e)] at d1
  rw [hother _ _ _ c2 (fun b e => by cases e)] at d2
  cases d1
  cases d2
  rw [← hF] at hF'
  subst hF'
  intro g off n hs
  refine ⟨?_, fun j x _ hu => hother _ _ _ hu (fun b e => by cases e)⟩
  rcases hs with ⟨n', c', h1, h2⟩ | ⟨h1, h2, h3⟩
  · exact .inl ⟨n', c', hother _ _ _ h1 (fun b e => by cases e), h2⟩
  · exact .inr ⟨h1, h2, by simpa using h3⟩
theorem Snaps.push {W : World} {p : Option Addr} {L cp : Nat} {a2 : Option Addr} {c2 : Nat} (H : Here mkR w bm 0 m F) (hd : w.cell? ⟨bm, 2, none⟩ = some (.slice p L cp)) (hW : Chg (fun _ => False) w W)
    (hchg : Chg (fun k => (Value.slice p L cp).ownBlock = some k) W w4) (hold : ∀ k, (Value.slice a2 (L + 1) c2).ownBlock = some k → (Value.slice p L cp).ownBlock = some k ∨ W.heap.size ≤ k)
    (hkeep : ∀ g off c, Value.slice p L cp = .slice (some ⟨g, off, none⟩) L c → (∀ j u, j < L * 1 → W.cell? ⟨g, off + j, none⟩ = some u → w4.cell? ⟨g, off + j, none⟩ = some u) ∧ ((∃ c', Value.slice a2 (L + 1) c2 = .slice (some ⟨g, off, none⟩) (L + 1) c') ∨ Chg (fun _ => False) W w4 ∧ ∀ k, (Value.slice a2 (L + 1) c2).ownBlock = some k → W.heap.size ≤ k))
    (H' : Here mkR (w4.setCell ⟨bm, 2, none⟩ (.slice a2 (L + 1) c2)) bm 0 m' F') : Snaps w (w4.setCell ⟨bm, 2, none⟩ (.slice a2 (L + 1) c2)) bm F F' := by
  obtain ⟨v1, v2, e1, e2, hF, ⟨s1, n1, k1, rfl⟩, -⟩ := mkFoot H
  rw [hd] at e2
  cases e2
  have hlt := H.lt
  have hnb := H.nb
  have hnd := H.nd
  rw [hF] at hnb hnd
  have hpb : ∀ k, (Value.slice p L cp).ownBlock = some k → k ≠ bm := fun k hk e => hnb (List.mem_append_right _ (mem_ownL.2 (e ▸ hk)))
  have hW4 : ∀ k j u, W.cell? ⟨k, j, none⟩ = some u → (∀ q, (Value.slice p L cp).ownBlock = some q → q ≠ k) → w4.cell? ⟨k, j, none⟩ = some u := fun k j u hu hk => hchg.cellS hu (fun x => hk k x rfl)
  have c1' : w4.cell? ⟨bm, 1, none⟩ = some (.slice s1 n1 k1) := hW4 _ _ _ (hW.cell e1) hpb
  have c2' : w4.cell? ⟨bm, 2, none⟩ = some (.slice p L cp) := hW4 _ _ _ (hW.cell hd) hpb
  obtain ⟨x1, x2, d1, d2, hF', -, -⟩ := mkFoot H'
  rw [World.cell?_setCell_other _ _ _ _ (by intro e; cases e), c1'] at d1
  rw [World.cell?_setCell_same _ _ _ c2'] at d2
  cases d1
  cases d2
  have hsz : W.heap.size ≤ w4.heap.size := hchg.size
  intro g off n hs
  rcases hs with ⟨n', c', h1, h2⟩ | ⟨h1, h2, h3⟩
  · rw [hd] at h1
    cases h1
    have hgF : g ∈ F := by rw [hF]; exact List.mem_append_right _ (mem_ownL.2 rfl)
    have hgb : g ≠ bm := hpb g rfl
    obtain ⟨q1, q2⟩ := hkeep g off cp rfl
    refine ⟨?_, fun j x hj hu => ?_⟩
    · rcases q2 with ⟨c'', e⟩ | ⟨-, hnew⟩
      · rw [e]
        exact .inl ⟨L + 1, c'', World.cell?_setCell_same _ _ _ c2', by omega⟩
      · refine .inr ⟨fun hx => ?_, hgb, ?_⟩
        · rw [hF'] at hx
          rcases List.mem_append.1 hx with y | y
          · exact (List.nodup_append.1 hnd).2.2 g y g (mem_ownL.2 rfl) rfl
          · have := hnew g (mem_ownL.1 y)
            have := hlt.2 g hgF
            have := hW.size
            omega
        · have := hlt.2 g hgF
          have := hW.size
          simp only [World.size_setCell]
          omega
    · rw [World.cell?_setCell_other _ _ _ _ (by intro e; rw [Addr.mk.injEq] at e; exact hgb e.1.symm)]
      exact q1 j _ (by omega) (hW.cell hu)
  · have hpg : ∀ q, (Value.slice p L cp).ownBlock = some q → q ≠ g := fun q hq e => h1 (by rw [hF]; exact List.mem_append_right _ (mem_ownL.2 (e ▸ hq)))
    refine ⟨.inr ⟨fun hx => ?_, h2, ?_⟩, fun j x hj hu => ?_⟩
    · rw [hF'] at hx
      rcases List.mem_append.1 hx with y | y
      · exact h1 (by rw [hF]; exact List.mem_append_left _ y)
      · rcases hold g (mem_ownL.1 y) with z | z
        · exact hpg g z rfl
        · have := hW.size; omega
    · have := hW.size
      simp only [World.size_setCell]
      omega
    · rw [World.cell?_setCell_other _ _ _ _ (by intro e; rw [Addr.mk.injEq] at e; exact h2 e.1.symm)]
      exact hW4 _ _ _ (hW.cell hu) hpg
end
/-- What add has done to the marks: a step at their block. -/
def MkP (w0 w : World) (bm bh : Nat) (hp : Hp) (K' : List Nat) (F : List Nat) (w' : World) : Prop := ∃ F', Own mkR w0 w' bm 0 (mkOf bh hp K') F' ∧ KOk hp K' ∧ Step w w' bm 0 3 F F' ∧ Snaps w w' bm F F'

end Go.Proofs.YtjianickjahdnaaDoor
namespace Go.Proofs.YtjianickjahdnaaDoor
open Go.RowKit
set_option linter.unusedVariables false
set_option linter.unusedSimpArgs false

def frameRefs (f : Frm) : List Int := (((refsV [f.this] ++ refsV f.locals) ++ refsV f.stack) ++ [f.env, f.object]) ++ refsV f.values
def framesM (l : List Frm) : List Int := nz (l.flatMap frameRefs)
def FrmOk (f : Frm) : Prop := f.locals.length ≤ 100 ∧ f.stack.length ≤ 100 ∧ f.values.length ≤ 100
theorem frameRefs_len {f : Frm} (h : FrmOk f) : (frameRefs f).length ≤ 303 := by
  obtain ⟨h1, h2, h3⟩ := h
  have a1 := refsV_len [f.this]
  have a2 := refsV_len f.locals
  have a3 := refsV_len f.stack
  have a4 := refsV_len f.values
  unfold frameRefs
  simp only [List.length_append, List.length_cons, List.length_nil] at *
  omega
theorem framesRefs_len : ∀ (l : List Frm), (∀ f ∈ l, FrmOk f) → (l.flatMap frameRefs).length ≤ l.length * 303
  | [], _ => by simp
  | f :: l, h => by
    have h1 := frameRefs_len (h f (by simp))
    have h2 := framesRefs_len l (fun g hg => h g (by simp [hg]))
    rw [List.flatMap_cons, List.length_append, List.length_cons, Nat.add_mul]
    omega
def frmC (f : Frm) (vl vs vv : Value) : List Value := [.int .i64 f.kind, .int .i64 f.func, .int .i64 f.pc, .int .i64 f.tkind, .int .i64 f.tint, .string f.tstr, .int .i64 f.tref, vl, vs, .int .i64 f.env, .int .i64 f.scope, .int .i64 f.mode, .int .i64 f.object, .int .i64 f.host, .int .i64 f.phase, vv]
/-- A frame that is being looked through. -/
structure FrS (w W : World) (bt : Nat) (cs : List Value) (v : Value) (acc : List Int) : Prop where
  out : OutI w W v acc
  blk : W.heap[bt]? = some (.cells cs.toArray 164 (0, 0))
  ne : ∀ k, v.ownBlock = some k → k ≠ bt
section
variable {w W W1 W2 : World} {bt : Nat} {cs : List Value} {v v2 : Value} {acc acc2 : List Int}
theorem FrS.still (h : FrS w W bt cs v acc) (hc : Chg (fun _ => False) W W1) : FrS w W1 bt cs v acc := ⟨h.out.still hc, hc.keep h.blk (fun x => x), h.ne⟩
theorem FrS.cell (h : FrS w W bt cs v acc) (j : Nat) (u : Value) (hu : cs[j]? = some u) : W.cell? ⟨bt, j, none⟩ = some u := cell_of_block h.blk (by simpa using hu)
theorem FrS.app (h : FrS w W bt cs v acc) (h1 : Chg (fun _ => False) W W1) (ho : OutI w W2 v2 acc2) (hc : Chg (fun k => v.ownBlock = some k) W1 W2) (hold : ∀ k, v2.ownBlock = some k → v.ownBlock = some k ∨ W1.heap.size ≤ k) : FrS w W2 bt cs v2 acc2 := by
  have hb := h1.keep h.blk (fun x => x)
  refine ⟨ho, hc.keep hb (fun x => h.ne _ x rfl), fun k hk e => ?_⟩
  rcases hold k hk with x | x
  · exact h.ne k x e
  · have := lt_of_block hb; omega
end

end Go.Proofs.YtjianickjahdnaaDoor
namespace Go.Proofs.YtjianickjahdnaaDoor
open Go.RowKit
attribute [local go_sem] Oper.semAt_some
set_option linter.unusedVariables false
set_option linter.unusedSimpArgs false

theorem Chg.putObj {S : Nat → Prop} {a b : World} (h : Chg S a b) (l : Nat) (o : _root_.Go.Obj) (hl : l < a.heap.size → S l) : Chg S a (b.putObj l o) :=
  h.trans (Chg.grown (grownBy_putObj' b l o)) (fun _ _ x => x) (fun i hi e => by cases e; exact hl hi)
/-- The contract of an iterator that makes its list first and changes nothing that lay there. -/
def SeqList {α : Type} (F : Fence) (n : Nat) (P : Program) (g : Nat) (lb : Array Value) (encs : α → Array Value) (xs : List α) (W : World) : Prop :=
  ∀ (l : Nat) (J : Nat → List α → World → Prop), (∀ W', Chg (fun _ => False) W W' → J W'.heap.size [] W') →
    (∀ B1 pre x W1, W.heap.size ≤ B1 → J B1 pre W1 → pre <+: xs → (pre ++ [x]) <+: xs → YieldAt F (n - 1) P l (encs x) W1 fun e W' =>
      e = .returned (.bool true) ∧ J B1 (pre ++ [x]) W' ∧ (∀ k o, W.heap.size ≤ k → k < B1 → W1.heap[k]? = some o → W'.heap[k]? = some o)) →
    CallsIn F n P g (#[.func (.yield l) #[] #[]] ++ lb) W fun e W' => (∃ v, e = .returned v) ∧ ∃ B1, W.heap.size ≤ B1 ∧ J B1 xs W'

/-- A range over such an iterator. -/
theorem wpIn_rangeFunc_list {F : Fence} {n : Nat} {P : Program} {α : Type} {g : Operand} {ps : Array Tmp} {assign body : Code} {Q : Exit → Act → World → Prop} {a : Act} {w : World}
    (hro : F.round = none) (h1 : 1 ≤ n) {gf : Nat} {lb : Array Value} (hg : a.eval g = .func (.func gf) #[] lb) (hFg : F.fn gf) (eg : ∀ args w, (callFunc gf args).run P w = .ok (.enter gf args) w)
    {encs : α → Array Value} {xs : List α} (hseq : ∀ W, Chg (fun _ => False) w W → SeqList F (n - 1) P gf lb encs xs W) (hps : ∀ x, (encs x).size = ps.size)
    (I : Nat → List α → World → Prop)
    (hI : ∀ B1 pre W l o o', I B1 pre W → w.heap.size ≤ l → W.heap[l]? = some o → o.isCells = false → I B1 pre (W.putObj l o'))
    (h0 : ∀ W, Chg (fun _ => False) w W → I W.heap.size [] W) (a₁ : α → Act)
    (hassign : ∀ (l : Nat) (x : α) (W : World) (K : Act → World → Prop), K (a₁ x) W →
      assign.wpIn (F.inRound l) (n - 1 - 1) P (Exit.then K (fun _ _ _ => False)) { tmps := (ps.zip (encs x)).foldl (fun t (p, v) => t.setIfInBounds p v) a.tmps, defers := [] } W)
    (hbody : ∀ (l B1 : Nat) (pre : List α) (x : α) (W : World), w.heap.size ≤ B1 → I B1 pre W → (pre ++ [x]) <+: xs →
      body.wpIn (F.inRound l) (n - 1 - 1) P (fun e _ W' => e = .normal ∧ I B1 (pre ++ [x]) W' ∧ ∀ k o, w.heap.size ≤ k → k < B1 → W.heap[k]? = some o → W'.heap[k]? = some o) (a₁ x) W)
    (hdone : ∀ (D B1 : Nat) (W : World), w.heap.size ≤ D → I B1 xs W → W.heap[D]? = some (.deferred (some [])) → Q .normal { a with defers := { target := .collected D, args := #[] } :: a.defers } W) :
    (Code.rangeFunc g ps assign body).wpIn F n P Q a w := by
  refine wpIn_rangeFunc ?_
  intro fn hfn
  rw [hro]
  obtain ⟨rec, hrec⟩ : ∃ rec : LoopState → Option Code → Loop, rec = fun st pe => { state := st, pending := pe, fn, tmps := a.tmps, params := ps, assign, body, defers := w.heap.size } := ⟨_, rfl⟩
  obtain ⟨W1, hW1⟩ : ∃ W1, (w.alloc (.deferred (some []))).alloc (.loop (rec .ready none)) = W1 := ⟨_, rfl⟩
  have hc1 : Chg (fun _ => False) w W1 := by rw [← hW1]; exact (Chg.alloc _ _ _).allocR _
  have hs1 : W1.heap.size = w.heap.size + 1 + 1 := by rw [← hW1]; simp
  have hL1 : W1.heap[w.heap.size + 1]? = some (.loop (rec .ready none)) := by
    rw [← hW1]; have := World.alloc_heap_new (w.alloc (.deferred (some []))) (.loop (rec .ready none)); rwa [World.size_alloc] at this
  have hK1 : W1.heap[w.heap.size]? = some (.deferred (some [])) := by
    rw [← hW1]; exact (Below.heap_alloc _ _ _ (by simp)).trans (World.alloc_heap_new w _)
  refine ⟨w.heap.size + 1, [{ target := .collected w.heap.size, args := #[] }], W1, { target := .fn (.func gf) lb, args := #[.func (.yield (w.heap.size + 1)) #[] #[]] }, W1, gf,
    #[.func (.yield (w.heap.size + 1)) #[] #[]] ++ lb, W1, ?_, ?_, ?_, ?_, fun _ => h1, ?_⟩
  · rw [← hW1, hrec]; exact run_enterLoop_outer _ _ _ _ _
  · simp only [resolve, hg]
    simp [go_sem]
  · intro f' hf'; simp [Target.leads] at hf'; subst hf'; exact hFg
  · simp [invoke, go_sem, eg]
  · refine ((hseq W1 hc1) (w.heap.size + 1)
      (fun B1 pre W => I B1 pre W ∧ W.heap[w.heap.size + 1]? = some (.loop (rec .ready none)) ∧ W.heap[w.heap.size]? = some (.deferred (some [])))
      (fun W' hc => ⟨h0 W' (hc1.trans' hc), hc.keep hL1 (fun x => x), hc.keep hK1 (fun x => x)⟩) ?_).mono ?_
    · rintro B1 pre x W hB ⟨hi, hl, hk⟩ - hpre
      rw [hs1] at hB ⊢
      have hlt : w.heap.size + 1 < W.heap.size := (Array.getElem?_eq_some_iff.1 hl).1
      have hy := run_yield (P := P) (args := encs x) hl (by rw [hrec]; exact hps x)
      rw [hrec] at hy
      refine ⟨fn, _, assign, body, hy, roundIn_of_wpIn hfn (hassign _ x W _ ⟨_, run_beginRound hl (by rw [hrec]), ?_⟩)⟩
      have hl2 : (W.putObj (w.heap.size + 1) (.loop { rec .ready none with state := .busy })).heap[w.heap.size + 1]? = some (.loop { rec .ready none with state := .busy }) := World.putObj_heap_same hlt
      have hk2 : (W.putObj (w.heap.size + 1) (.loop { rec .ready none with state := .busy })).heap[w.heap.size]? = some (.deferred (some [])) := (World.putObj_heap_other (by omega)).trans hk
      refine wpIn_mono (hbody _ B1 pre x _ (by omega) (hI _ _ _ _ _ _ hi (by omega) hl rfl) hpre) ?_
      rintro e a3 W3 ⟨rfl, hi3, hkeep⟩
      have hl3 := hkeep _ _ (by omega) (by omega) hl2
      have hk3 := hkeep _ _ (by omega) (by omega) hk2
      have hr := run_endRound (P := P) none hl3
      have hlt3 := (Array.getElem?_eq_some_iff.1 hl3).1
      rw [hrec] at hr
      refine ⟨_, _, hr, rfl, ⟨hI _ _ _ _ _ _ hi3 (by omega) hl3 rfl, ?_, (World.putObj_heap_other (by omega)).trans hk3⟩, ?_⟩
      · rw [hrec]; exact World.putObj_heap_same hlt3
      · intro k o h2 h3 ho
        by_cases hkl : k = w.heap.size + 1
        · omega
        · rw [World.putObj_heap_other (by omega)]
          exact hkeep _ _ (by omega) h3 (by rw [World.putObj_heap_other (by omega)]; exact ho)
    · rintro e W2 ⟨⟨v, rfl⟩, B1, hB, hi, hl, hk⟩
      exact ⟨none, _, by have := run_endLoop (P := P) hl (by rw [hrec]; simp); rw [hrec] at this; exact this, hdone _ B1 _ (Nat.le_refl _) (hI _ _ _ _ _ _ hi (by omega) hl rfl) ((World.putObj_heap_other (by omega)).trans hk)⟩
end Go.Proofs.YtjianickjahdnaaDoor
namespace Go.Proofs.YtjianickjahdnaaDoor
open Go.RowKit
attribute [local go_sem] Oper.semAt_some
set_option linter.unusedVariables false
set_option linter.unusedSimpArgs false

def propRefs (p : Prp) : List Int := refsV [p.val]
def refsL (x : Obj) : List Int := ((((([x.proto] ++ x.props.flatMap propRefs) ++ refsV x.elems) ++ (if x.kind = 5 then [] else refsV x.data)) ++ [x.env]) ++ framesM x.saved)
def refsM (x : Obj) : List Int := nz (refsL x)
structure ObjOk (x : Obj) : Prop where
  props : x.props.length ≤ 1000
  elems : x.elems.length ≤ 1000
  data : x.data.length ≤ 1000
  saved : x.saved.length ≤ 1000
  each : ∀ f ∈ x.saved, FrmOk f
theorem framesM_len {l : List Frm} (h : ∀ f ∈ l, FrmOk f) : (framesM l).length ≤ l.length * 303 := Nat.le_trans (List.length_filter_le ..) (framesRefs_len l h)
theorem propRefs_len : ∀ (l : List Prp), (l.flatMap propRefs).length ≤ l.length
  | [] => Nat.le_refl _
  | p :: l => by
    have h1 := refsV_len [p.val]
    have h2 := propRefs_len l
    rw [List.flatMap_cons, List.length_append, List.length_cons]
    unfold propRefs at *
    simp only [List.length_cons, List.length_nil] at h1
    omega
/-- An object in memory, opened. -/
structure ObjC (w : World) (g o : Nat) (x : Obj) (vp ve vd vs : Value) : Prop where
  c0 : w.cell? ⟨g, o, none⟩ = some (.int .i64 x.kind)
  c1 : w.cell? ⟨g, o + 1, none⟩ = some (.int .i64 x.proto)
  c2 : w.cell? ⟨g, o + 2, none⟩ = some vp
  c3 : w.cell? ⟨g, o + 3, none⟩ = some ve
  c4 : w.cell? ⟨g, o + 4, none⟩ = some vd
  c6 : w.cell? ⟨g, o + 6, none⟩ = some (.int .i64 x.env)
  c9 : w.cell? ⟨g, o + 9, none⟩ = some vs
  rp : RowAt w 86 5 vp x.props.length (x.props.flatMap Prp.cells)
  re : RowAt w 36 4 ve x.elems.length (x.elems.flatMap Val.cells)
  rd : RowAt w 36 4 vd x.data.length (x.data.flatMap Val.cells)
  rs : ∃ F, (frmR.row 164).own w [vs] x.saved F
theorem ObjC.still {w w' : World} {g o : Nat} {x : Obj} {vp ve vd vs : Value} (h : ObjC w g o x vp ve vd vs) (hc : Chg (fun _ => False) w w') : ObjC w' g o x vp ve vd vs := by
  obtain ⟨F, hF⟩ := h.rs
  exact ⟨hc.cell h.c0, hc.cell h.c1, hc.cell h.c2, hc.cell h.c3, hc.cell h.c4, hc.cell h.c6, hc.cell h.c9, h.rp.chg hc (fun _ _ x => x), h.re.chg hc (fun _ _ x => x), h.rd.chg hc (fun _ _ x => x), F, (frmR.row 164).chg hF hc (fun _ _ x => x)⟩
theorem objOpen {w : World} {g o : Nat} {x : Obj} {F : List Nat} (H : Here objR w g o x F) : ∃ vp ve vd vs, ObjC w g o x vp ve vd vs := by
  obtain ⟨cs, ⟨vp, ve, vd, vs, F1, F2, F3, F4, rfl, h1, h2, h3, h4, -⟩, hc⟩ := H.cell
  obtain ⟨v1, e1, r1, -⟩ := row_flat.1 h1
  obtain rfl : vp = v1 := by simpa using e1
  obtain ⟨v2, e2, r2, -⟩ := row_flat.1 h2
  obtain rfl : ve = v2 := by simpa using e2
  obtain ⟨v3, e3, r3, -⟩ := row_flat.1 h3
  obtain rfl : vd = v3 := by simpa using e3
  exact ⟨vp, ve, vd, vs, hc 0 _ rfl, hc 1 _ rfl, hc 2 _ rfl, hc 3 _ rfl, hc 4 _ rfl, hc 6 _ rfl, hc 9 _ rfl, r1, r2, r3, F4, h4⟩

end Go.Proofs.YtjianickjahdnaaDoor
