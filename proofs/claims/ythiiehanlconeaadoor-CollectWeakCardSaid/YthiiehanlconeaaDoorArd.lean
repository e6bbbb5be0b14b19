/-
  An empty arena; a new heap with its prototypes; Make.
-/
import Derived.Test.YthiiehanlconeaaDoorArc
import Derived.Test.YthiiehanlconeaaDoorMake
namespace Go.Proofs.YthiiehanlconeaaDoor
open Go.RowKit
set_option linter.unusedVariables false
set_option linter.unusedSimpArgs false

set_option maxHeartbeats 800000 in
set_option maxRecDepth 100000 in
theorem anew_any (a s : Int) (w : World) :
    Calls Tryd.prog 15 #[.agg #[.int .i64 a, .int .i64 s]] w fun e w' => e = .returned (.agg #[.int .i64 a, .int .i64 s, .slice none 0 0, .slice none 0 0, .int .i64 0]) ∧
      w' = (w.alloc (.cells #[.int .i64 a, .int .i64 s] 25)).alloc (.cells #[.int .i64 a, .int .i64 s, .slice none 0 0, .slice none 0 0, .int .i64 0] 29) := by
  go_enter Tryd.func15, Tryd.ntmps15
  go_wp2_with fail
  refine bodyPost_ret (results_cell_row rfl _ _ (w.heap.size + 1) _ _ _ _ (by rfl) (heap_alloc2_new _ _ _) Tryd.underlying29 rfl (by kernel_rfl)) rfl ?_
  exact ⟨rfl, rfl⟩

set_option maxHeartbeats 800000 in
set_option maxRecDepth 100000 in
theorem len_any (w : World) (b o : Nat) (hp : Hp) (F : List Nat) (H : Here hpR w b o hp F) :
    Calls Tryd.prog 17 #[.pointer (some ⟨b, o, none⟩)] w fun e w' => e = .returned (.int .i64 hp.live) ∧ w' = w := by
  obtain ⟨-, -, -, -, c4, -⟩ := hpCells H
  go_enter Tryd.func17, Tryd.ntmps17
  go_wp2_with fail
  go_ret
  exact ⟨rfl, rfl⟩


/-! ### A new heap -/
theorem info_int : (Tryd.prog.info? 3).map (fun i => (i.zero, i.size, i.bytes)) = some (some (.int .i64 0), 1, 8) := by kernel_rfl
theorem info_bool : (Tryd.prog.info? 4).map (fun i => (i.zero, i.size, i.bytes)) = some (some (.bool false), 1, 1) := by kernel_rfl
theorem made_ints (W : World) (n : Int) (h0 : 0 ≤ n) (h1 : n ≤ 100000) : (Instr.makeSlice 27 (.int .i64 n) (.int .i64 n)).run Tryd.prog W = .ok (.slice (some ⟨W.heap.size, 0, none⟩) n.toNat n.toNat) (W.alloc (.cells (Array.replicate n.toNat (.int .i64 0)) 3)) :=
  run_makeOne Tryd.underlying27 info_int rfl n h0 (by omega) (by omega) W
def kindsL : List Int := [1, 2, 4, 5, 6, 7, 8, 10, 11]
def hp0 (a s : Int) : Hp := ⟨a, s, [], [], 0, 0, 0, List.replicate 12 0⟩
/-- A new heap, m of the prototypes being made. -/
def newK (a s : Int) (m : Nat) : Hp :=
  { base := a, stride := s, slots := ⟨true, newObj 0 0⟩ :: List.replicate m ⟨true, newObj 0 (handleM a s 0)⟩, free := [], live := ((m + 1 : Nat) : Int), global := 0, texts := 0,
    protos := (List.range m).foldl (fun l i => l.set (kindsL.getD i 0).toNat (handleM a s ((i + 1 : Nat) : Int))) ((List.replicate 12 (0 : Int)).set 0 (handleM a s 0)) }
def hps (a s : Int) : List Int := let h := fun i : Int => handleM a s i; [h 0, h 1, h 2, h 2, h 3, h 4, h 5, h 6, h 7, 0, h 8, h 9]
def hpT (a s : Int) : Hp :=
  { base := a, stride := s, slots := ⟨true, newObj 0 0⟩ :: List.replicate 10 ⟨true, newObj 0 (handleM a s 0)⟩, free := [], live := 11, global := 0, texts := handleM a s 10, protos := hps a s }
def newM (a s : Int) : Hp :=
  { base := a, stride := s, slots := ⟨true, newObj 0 0⟩ :: List.replicate 11 ⟨true, newObj 0 (handleM a s 0)⟩, free := [], live := 12, global := handleM a s 11, texts := handleM a s 10, protos := hps a s }
theorem newK_len (a s : Int) (m : Nat) : (newK a s m).protos.length = 12 := by
  unfold newK
  simp only
  induction m with
  | zero => rfl
  | succ m ih => rw [List.range_succ, List.foldl_append]; simp only [List.foldl_cons, List.foldl_nil, List.length_set]; exact ih
theorem newK_succ (a s : Int) (m : Nat) : newK a s (m + 1) = { addedM (newK a s m) ⟨true, newObj 0 (handleM a s 0)⟩ with protos := (newK a s m).protos.set (kindsL.getD m 0).toNat (handleM a s ((m + 1 : Nat) : Int)) } := by
  unfold newK addedM
  simp only [List.range_succ, List.foldl_append, List.foldl_cons, List.foldl_nil, List.cons_append, ← List.replicate_succ', Hp.mk.injEq, true_and, and_true]
  omega
/-- A thing made behind w, and blocks apart from it that lie as they lay. -/
structure OwnL {α : Type} (A : Rep α) (w W : World) (b : Nat) (a : α) (L : List (Nat × _root_.Go.Obj)) : Prop where
  ex : ∃ F, Own A w W b 0 a F ∧ ∀ p ∈ L, W.heap[p.1]? = some p.2 ∧ p.1 ≠ b ∧ p.1 ∉ F
section
variable {α : Type} {A : Rep α} {w W W' : World} {b : Nat} {a : α} {L : List (Nat × _root_.Go.Obj)}
theorem OwnL.here (h : OwnL A w W b a L) : ∃ F, Here A W b 0 a F ∧ ∀ W' a', Post A W b 0 a' F W' → OwnL A w W' b a' L := by
  obtain ⟨F, ho, hr⟩ := h.ex
  refine ⟨F, ho.here, fun W' a' hp => ?_⟩
  obtain ⟨F', h1, h2⟩ := hp
  refine ⟨⟨F', ho.step h1 h2, fun p hp => ?_⟩⟩
  obtain ⟨k1, k2, k3⟩ := hr p hp
  refine ⟨h2.chg.keep k1 (fun x => x.elim k2 k3), k2, fun x => ?_⟩
  rcases h2.new p.1 x with y | y
  · exact k3 y
  · have := lt_of_block k1; omega
theorem OwnL.still (h : OwnL A w W b a L) (hc : Chg (fun _ => False) W W') : OwnL A w W' b a L := by
  obtain ⟨F, h1, h2⟩ := h.here
  exact h2 W' a (h1.same hc)
theorem OwnL.drew (h : OwnL A w W b a L) : OwnL A w W.drew b a L := h.still ((Chg.refl _ W).drewR)
theorem OwnL.get (h : OwnL A w W b a L) {k : Nat} {o : _root_.Go.Obj} (hk : (k, o) ∈ L) : W.heap[k]? = some o := by
  obtain ⟨F, -, hr⟩ := h.ex
  exact (hr _ hk).1
theorem OwnL.chg (h : OwnL A w W b a L) : Chg (fun _ => False) w W := by
  obtain ⟨F, ho, -⟩ := h.ex
  exact ho.chg
theorem OwnL.alloc (h : OwnL A w W b a L) (o : _root_.Go.Obj) : OwnL A w (W.alloc o) b a ((W.heap.size, o) :: L) := by
  obtain ⟨F, ho, hr⟩ := h.ex
  have hlt := ho.here.lt
  refine ⟨⟨F, ho.still (Chg.alloc _ W o), fun p hp => ?_⟩⟩
  rcases List.mem_cons.1 hp with rfl | hp
  · exact ⟨alloc_block W o, fun e => by have := hlt.1; simp only at e; omega, fun x => by have := hlt.2 _ x; simp only at this; omega⟩
  · obtain ⟨k1, k2, k3⟩ := hr p hp
    exact ⟨alloc_old o k1, k2, k3⟩
/-- Another block that lay there before the thing was made, or beside it. -/
theorem OwnL.fewer {L' : List (Nat × _root_.Go.Obj)} (h : OwnL A w W b a L) (hL : ∀ p ∈ L', p ∈ L) : OwnL A w W b a L' := by
  obtain ⟨F, ho, hr⟩ := h.ex
  exact ⟨F, ho, fun p hp => hr p (hL p hp)⟩
end
theorem kinds_get : ∀ m, m < 9 → (#[Value.int .i64 1, .int .i64 2, .int .i64 4, .int .i64 5, .int .i64 6, .int .i64 7, .int .i64 8, .int .i64 10, .int .i64 11] : Array Value)[0 + m]? = some (.int .i64 (kindsL.getD m 0))
  | 0, _ => rfl
  | 1, _ => rfl
  | 2, _ => rfl
  | 3, _ => rfl
  | 4, _ => rfl
  | 5, _ => rfl
  | 6, _ => rfl
  | 7, _ => rfl
  | 8, _ => rfl
  | m + 9, h => absurd h (by omega)
theorem setAll8 {w : World} {b T : Nat} {u0 u1 u2 u3 u4 u5 u6 u7 : Value} (h : w.heap[b]? = some (.cells #[u0, u1, u2, u3, u4, u5, u6, u7] T (0, 0))) (v0 v1 v2 v3 v4 v5 v6 v7 : Value) :
    ∃ W1, ((((((((w.setCell ⟨b, 0, none⟩ v0).setCell ⟨b, 1, none⟩ v1).setCell ⟨b, 2, none⟩ v2).setCell ⟨b, 3, none⟩ v3).setCell ⟨b, 4, none⟩ v4).setCell ⟨b, 5, none⟩ v5).setCell ⟨b, 6, none⟩ v6).setCell ⟨b, 7, none⟩ v7) = W1 ∧ W1.heap[b]? = some (.cells #[v0, v1, v2, v3, v4, v5, v6, v7] T (0, 0)) ∧ Chg (· = b) w W1 := by
  have c0 := Chg.setCell w ⟨b, 0, none⟩ v0
  have c1 := c0.setCellR ⟨b, 1, none⟩ v1 (fun _ => rfl)
  have c2 := c1.setCellR ⟨b, 2, none⟩ v2 (fun _ => rfl)
  have c3 := c2.setCellR ⟨b, 3, none⟩ v3 (fun _ => rfl)
  have c4 := c3.setCellR ⟨b, 4, none⟩ v4 (fun _ => rfl)
  have c5 := c4.setCellR ⟨b, 5, none⟩ v5 (fun _ => rfl)
  have c6 := c5.setCellR ⟨b, 6, none⟩ v6 (fun _ => rfl)
  have c7 := c6.setCellR ⟨b, 7, none⟩ v7 (fun _ => rfl)
  have h0 : (w.setCell ⟨b, 0, none⟩ v0).heap[b]? = some (.cells #[v0, u1, u2, u3, u4, u5, u6, u7] T (0, 0)) := setCell_block v0 h
  have h1 : ((w.setCell ⟨b, 0, none⟩ v0).setCell ⟨b, 1, none⟩ v1).heap[b]? = some (.cells #[v0, v1, u2, u3, u4, u5, u6, u7] T (0, 0)) := setCell_block v1 h0
  have h2 : (((w.setCell ⟨b, 0, none⟩ v0).setCell ⟨b, 1, none⟩ v1).setCell ⟨b, 2, none⟩ v2).heap[b]? = some (.cells #[v0, v1, v2, u3, u4, u5, u6, u7] T (0, 0)) := setCell_block v2 h1
  have h3 : ((((w.setCell ⟨b, 0, none⟩ v0).setCell ⟨b, 1, none⟩ v1).setCell ⟨b, 2, none⟩ v2).setCell ⟨b, 3, none⟩ v3).heap[b]? = some (.cells #[v0, v1, v2, v3, u4, u5, u6, u7] T (0, 0)) := setCell_block v3 h2
  have h4 : (((((w.setCell ⟨b, 0, none⟩ v0).setCell ⟨b, 1, none⟩ v1).setCell ⟨b, 2, none⟩ v2).setCell ⟨b, 3, none⟩ v3).setCell ⟨b, 4, none⟩ v4).heap[b]? = some (.cells #[v0, v1, v2, v3, v4, u5, u6, u7] T (0, 0)) := setCell_block v4 h3
  have h5 : ((((((w.setCell ⟨b, 0, none⟩ v0).setCell ⟨b, 1, none⟩ v1).setCell ⟨b, 2, none⟩ v2).setCell ⟨b, 3, none⟩ v3).setCell ⟨b, 4, none⟩ v4).setCell ⟨b, 5, none⟩ v5).heap[b]? = some (.cells #[v0, v1, v2, v3, v4, v5, u6, u7] T (0, 0)) := setCell_block v5 h4
  have h6 : (((((((w.setCell ⟨b, 0, none⟩ v0).setCell ⟨b, 1, none⟩ v1).setCell ⟨b, 2, none⟩ v2).setCell ⟨b, 3, none⟩ v3).setCell ⟨b, 4, none⟩ v4).setCell ⟨b, 5, none⟩ v5).setCell ⟨b, 6, none⟩ v6).heap[b]? = some (.cells #[v0, v1, v2, v3, v4, v5, v6, u7] T (0, 0)) := setCell_block v6 h5
  have h7 : ((((((((w.setCell ⟨b, 0, none⟩ v0).setCell ⟨b, 1, none⟩ v1).setCell ⟨b, 2, none⟩ v2).setCell ⟨b, 3, none⟩ v3).setCell ⟨b, 4, none⟩ v4).setCell ⟨b, 5, none⟩ v5).setCell ⟨b, 6, none⟩ v6).setCell ⟨b, 7, none⟩ v7).heap[b]? = some (.cells #[v0, v1, v2, v3, v4, v5, v6, v7] T (0, 0)) := setCell_block v7 h6
  exact ⟨_, rfl, h7, c7⟩
def z49 : _root_.Go.Obj := .cells #[.int .i64 0, .int .i64 0, .slice none 0 0, .slice none 0 0, .int .i64 0, .int .i64 0, .int .i64 0, .slice none 0 0] 31
def k9 : _root_.Go.Obj := .cells #[.int .i64 1, .int .i64 2, .int .i64 4, .int .i64 5, .int .i64 6, .int .i64 7, .int .i64 8, .int .i64 10, .int .i64 11] 3
/-- Add at the heap in the making. -/
theorem OwnL.add {w W : World} {b : Nat} {hp : Hp} {L : List (Nat × _root_.Go.Obj)} (h : OwnL hpR w W b hp L) (kind proto : Int) (hfree : hp.free = []) (hl : Few hp.slots.length) (hlive : hp.live = hp.slots.length) :
    Calls Tryd.prog 16 #[.pointer (some ⟨b, 0, none⟩), .agg #[.int .i64 kind, .int .i64 proto, .slice none 0 0, .slice none 0 0, .slice none 0 0, .int .i64 0, .int .i64 0, .int .i64 0, .int .i64 0, .slice none 0 0]] W
      fun e w' => e = .returned (.int .i64 (handleM hp.base hp.stride hp.slots.length)) ∧ OwnL hpR w w' b (addedM hp ⟨true, newObj kind proto⟩) L ∧ ∀ j u, 5 ≤ j → W.cell? ⟨b, 0 + j, none⟩ = some u → w'.cell? ⟨b, 0 + j, none⟩ = some u := by
  obtain ⟨F, h1, h2⟩ := h.here
  exact (add_any W b 0 hp F kind proto h1 hfree hl hlive).mono fun e w' ⟨he, ha⟩ => ⟨he, h2 _ _ ha.post, ha.rest⟩
/-- A prototype, and how it is set. -/
theorem protoSet {w : World} {b o : Nat} {hp : Hp} {F : List Nat} (H : Here hpR w b o hp F) (hl : 0 < hp.protos.length) : ∃ g off cap, w.cell? ⟨b, o + 7, none⟩ = some (.slice (some ⟨g, off, none⟩) hp.protos.length cap) ∧
    ∀ i (hi : i < hp.protos.length), w.cell? ⟨g, off + i, none⟩ = some (.int .i64 hp.protos[i]) ∧ w.frozen? ⟨g, off + i, none⟩ = false ∧ ∀ x, Post hpR w b o { hp with protos := hp.protos.set i x } F (w.setCell ⟨g, off + i, none⟩ (.int .i64 x)) := by
  obtain ⟨g, off, cap, hv⟩ := H.rowAt hpR_protos (by show 0 < 8; decide) hl
  refine ⟨g, off, cap, hv, fun i hi => ?_⟩
  obtain ⟨G, h1, -, -, -, h2⟩ := H.rowElem hpR_protos (by show 0 < 8; decide) hv hi
  have e : off + i * (Rep.int .i64).n = off + i := by show off + i * 1 = off + i; omega
  rw [e] at h1 h2
  refine ⟨h1.cells (cs := []) 0 _ rfl, h1.frozen _, fun x => ?_⟩
  obtain ⟨p, q⟩ := h1.set (y := x) (v := .int .i64 x) rfl
  exact (h2 _ _ _ p q).1


theorem alloc_at (w : World) (o : _root_.Go.Obj) (k : Nat) : (w.alloc o).heap[k]? = if k = w.heap.size then some o else w.heap[k]? := by
  unfold World.alloc
  exact Array.getElem?_push
theorem drew_at (w : World) : w.drew.heap = w.heap := rfl
theorem newI_of {w W : World} {r b : Nat} {a s : Int} (h : ∃ g, W.heap[b]? = some (.cells #[.int .i64 a, .int .i64 s, .slice none 0 0, .slice none 0 0, .int .i64 0, .int .i64 0, .int .i64 0, .slice (some ⟨g, 0, none⟩) 12 12] 31 (0, 0)) ∧
      W.heap[g]? = some (.cells #[.int .i64 0, .int .i64 0, .int .i64 0, .int .i64 0, .int .i64 0, .int .i64 0, .int .i64 0, .int .i64 0, .int .i64 0, .int .i64 0, .int .i64 0, .int .i64 0] 3 (0, 0)) ∧
      W.heap[r]? = some (.cells #[.int .i64 0, .int .i64 0, .slice none 0 0, .slice none 0 0, .int .i64 0, .int .i64 0, .int .i64 0, .slice none 0 0] 31 (0, 0)) ∧
      w.heap.size ≤ b ∧ w.heap.size ≤ g ∧ r ≠ b ∧ r ≠ g ∧ b ≠ g) (hc : Chg (fun _ => False) w W) : OwnL hpR w W b (hp0 a s) [(r, z49)] := by
  obtain ⟨g, hb, hg, hr, h1, h2, h3, h4, h5⟩ := h
  have hn : ∀ {α : Type} (A : Rep α) e, (A.row e).own W [.slice none 0 0] [] [] := fun A e => ⟨_, [], [], rfl, RowAt.nil _ _ _, .nil, rfl⟩
  have hrow : RowAt W 3 1 (.slice (some ⟨g, 0, none⟩) 12 12) (List.replicate 12 (0 : Int)).length ((List.replicate 12 (0 : Int)).flatMap fun s => [.int .i64 s]) :=
    ⟨by simp, .inr ⟨g, 0, 12, _, rfl, hg, by simp, by simp [maxLen], by simp, rfl⟩⟩
  refine ⟨⟨[g], ⟨⟨⟨_, _, hb, ?_⟩, by simpa using h5, by simp⟩, hc, h1, by simpa using h2⟩, fun p hp => ?_⟩⟩
  rotate_left
  · obtain rfl : p = (r, z49) := by simpa using hp
    exact ⟨hr, h3, by simpa using h4⟩
  exact ⟨_, _, _, [], [], [g], rfl, hn _ _, hn _ _, ofRow_flat hrow, rfl⟩

set_option maxHeartbeats 3200000 in
set_option maxRecDepth 100000 in
theorem new_any (a s : Int) (w : World) :
    Calls Tryd.prog 6 #[.agg #[.int .i64 a, .int .i64 s]] w fun e w' => ∃ cs F, e = .returned (.agg cs.toArray) ∧ hpR.own w' cs (newM a s) F ∧ F.Nodup ∧ (∀ k ∈ F, w.heap.size ≤ k) ∧ Chg (fun _ => False) w w' := by
  have HA := Lib.hid (fun w => anew_any a s w)
  have hmk := fun W => made_ints W 12 (by omega) (by omega)
  rw [show (12 : Int).toNat = 12 from rfl] at hmk
  have hrep : Array.replicate 12 (Value.int .i64 0) = #[.int .i64 0, .int .i64 0, .int .i64 0, .int .i64 0, .int .i64 0, .int .i64 0, .int .i64 0, .int .i64 0, .int .i64 0, .int .i64 0, .int .i64 0, .int .i64 0] := rfl
  rw [hrep] at hmk
  clear hrep
  go_enter Tryd.func6, Tryd.ntmps6
  go_upto_region 1 with fail
  go_cut [3] (fun u3 wx => ∃ bh, u3 = .pointer (some ⟨bh, 0, none⟩) ∧ OwnL hpR w wx bh (hp0 a s) [(w.heap.size + 1, z49)])
  case first =>
    go_region_law (go_simp; go_at_call 15; refine (HA.out _).mono ?_; rintro e w2 ⟨rfl, rfl⟩)
    all_goals (
      go_wp2_with fail
      go_meet
      refine ⟨_, rfl, newI_of ?_ ?_⟩
      · simp only [drew_at, alloc_at, World.size_alloc, if_true]
        first
        | (refine ⟨w.heap.size + 1 + 1, ?_, ?_, ?_, ?_, ?_, ?_, ?_, ?_⟩ <;> first | omega | ((repeat' split) <;> first | (exfalso; omega) | rfl))
        | (refine ⟨w.heap.size + 1 + 1 + 1, ?_, ?_, ?_, ?_, ?_, ?_, ?_, ?_⟩ <;> first | omega | ((repeat' split) <;> first | (exfalso; omega) | rfl))
        | (refine ⟨w.heap.size + 1 + 1 + 1 + 1, ?_, ?_, ?_, ?_, ?_, ?_, ?_, ?_⟩ <;> first | omega | ((repeat' split) <;> first | (exfalso; omega) | rfl))
        | (refine ⟨w.heap.size + 1 + 1 + 1 + 1 + 1, ?_, ?_, ?_, ?_, ?_, ?_, ?_, ?_⟩ <;> first | omega | ((repeat' split) <;> first | (exfalso; omega) | rfl))
      · repeat (first | with_reducible exact Chg.refl _ _ | with_reducible apply Chg.drewR | with_reducible apply Chg.allocR))
  case rest =>
  obtain ⟨bh, rfl, HN⟩ := hcut
  clear hmk HA
  have HC := Lib.hid (HN.add 0 0 rfl (Few.of 0 (Nat.le_refl _) (by omega)) rfl)
  rw [show (hp0 a s).slots.length = 0 from rfl, show (hp0 a s).base = a from rfl, show (hp0 a s).stride = s from rfl] at HC
  clear HN
  go_upto_region 3 with (go_at_call 16; refine (HC.out).mono ?_; rintro e w2 ⟨rfl, HN2, -⟩)
  obtain ⟨F2, H2, back2⟩ := HN2.here
  obtain ⟨g, off, cap, c7, hset⟩ := protoSet H2 (by show 0 < 12; omega)
  obtain ⟨q1, q2, q3⟩ := hset 0 (by show 0 < 12; omega)
  rw [Nat.zero_add] at c7
  rw [Nat.add_zero] at q1 q2
  rw [show (addedM (hp0 a s) ⟨true, newObj 0 0⟩).protos.length = 12 from rfl] at c7
  have HN3 := back2 _ _ (q3 (handleM a s 0))
  have e3 : { addedM (hp0 a s) ⟨true, newObj 0 0⟩ with protos := (addedM (hp0 a s) ⟨true, newObj 0 0⟩).protos.set 0 (handleM a s 0) } = newK a s 0 := rfl
  rw [e3] at HN3
  have HN3' := Lib.hid HN3
  clear e3 HN3 hset q3 back2 H2 HN2
  go_upto_region 4 with fail
  rw [Nat.add_zero] at HN3'
  clear c7 q1 q2
  have HN4 := HN3'.out
  generalize w2.setCell ⟨g, off, none⟩ (.int .i64 (handleM a s 0)) = w3 at *
  have HN5 := HN4.alloc (.cells #[.int .i64 1, .int .i64 2, .int .i64 4, .int .i64 5, .int .i64 6, .int .i64 7, .int .i64 8, .int .i64 10, .int .i64 11] 3)
  clear HN4 HN3'
  go_wp2_with fail
  go_loopw [6, 20] (fun _ u wr => ∃ m : Nat, m ≤ 9 ∧ u = .int .i64 m ∧ Hid (OwnL hpR w wr bh (newK a s m) [(w3.heap.size, k9), (w.heap.size + 1, z49)])) (fun _ u _ => 9 - (intOf u).toNat)
  case atStart => exact ⟨0, by omega, rfl, Lib.hid HN5⟩
  case round =>
    obtain ⟨m, hm, rfl, HI⟩ := hrel
    clear HN5
    by_cases hlt : m < 9
    · have h1 : (m : Int) < 9 := by omega
      have h0 : (0 : Int) ≤ (m : Int) := by omega
      have hkd : wr.cell? ⟨w3.heap.size, 0 + m, none⟩ = some (.int .i64 (kindsL.getD m 0)) := cell_of_block (HI.out.get (k := w3.heap.size) (o := k9) (List.mem_cons_self ..)) (kinds_get m hlt)
      rw [Nat.zero_add] at hkd
      have hkr : 0 ≤ kindsL.getD m 0 ∧ kindsL.getD m 0 < 12 := by
        have : ∀ m, m < 9 → 0 ≤ kindsL.getD m 0 ∧ kindsL.getD m 0 < 12 := by decide
        exact this m hlt
      obtain ⟨F2, H2, back2⟩ := HI.out.here
      obtain ⟨g2, off2, cap2, c7, -⟩ := protoSet H2 (by rw [newK_len]; omega)
      rw [newK_len, Nat.zero_add] at c7
      have hlen : (newK a s m).slots.length = m + 1 := by show (List.replicate m _).length + 1 = _; simp
      have HC := Lib.hid (HI.out.drew.add 0 (handleM a s 0) rfl (Few.of 20 (by rw [hlen]; omega) (by omega)) (by rw [hlen]; rfl))
      rw [hlen, show (newK a s m).base = a from rfl, show (newK a s m).stride = s from rfl] at HC
      have hsucc := Lib.hid (newK_succ a s m)
      have hpl := Lib.hid (newK_len a s m)
      have HLT := Lib.hid hlt
      have w64 : IntKind.i64.wrap ((m : Int) + 1) = ((m + 1 : Nat) : Int) := IntWalk.i64_in _ (by omega)
      clear H2 back2 hlen hm HI hlt
      generalize hk : kindsL.getD m 0 = kd at *
      obtain ⟨kn, rfl⟩ : ∃ kn : Nat, kd = (kn : Int) := ⟨kd.toNat, by omega⟩
      have hk1 : (kn : Int) < 12 := hkr.2
      have hk0 : (0 : Int) ≤ (kn : Int) := hkr.1
      clear hkr hk
      rw [Int.toNat_natCast] at hsucc
      have HPS : Hid (∀ wq, OwnL hpR w wq bh (addedM (newK a s m) ⟨true, newObj 0 (handleM a s 0)⟩) [(w3.heap.size, k9), (w.heap.size + 1, z49)] →
          (∀ j u, 5 ≤ j → wr.drew.cell? ⟨bh, 0 + j, none⟩ = some u → wq.cell? ⟨bh, 0 + j, none⟩ = some u) →
          wq.cell? ⟨bh, 7, none⟩ = some (.slice (some ⟨g2, off2, none⟩) 12 cap2) ∧ (∃ x, wq.cell? ⟨g2, off2 + kn, none⟩ = some (.int .i64 x)) ∧ wq.frozen? ⟨g2, off2 + kn, none⟩ = false ∧
          Hid (OwnL hpR w (wq.setCell ⟨g2, off2 + kn, none⟩ (.int .i64 (handleM a s ((m + 1 : Nat) : Int)))) bh { addedM (newK a s m) ⟨true, newObj 0 (handleM a s 0)⟩ with protos := (newK a s m).protos.set kn (handleM a s ((m + 1 : Nat) : Int)) } [(w3.heap.size, k9), (w.heap.size + 1, z49)])) := Lib.hid (by
        intro wq HQ hst
        have c7' := hst 7 _ (by omega) c7
        obtain ⟨Fq, Hq, bq⟩ := HQ.here
        obtain ⟨gq, oq, cq, cc7, hset⟩ := protoSet Hq (by show 0 < (newK a s m).protos.length; rw [hpl.out]; omega)
        rw [c7', show (addedM (newK a s m) ⟨true, newObj 0 (handleM a s 0)⟩).protos.length = 12 from hpl.out, Option.some.injEq] at cc7
        cases cc7
        obtain ⟨q1, q2, q3⟩ := hset kn (by show kn < (newK a s m).protos.length; rw [hpl.out]; omega)
        exact ⟨c7', ⟨_, q1⟩, q2, Lib.hid (bq _ _ (q3 _))⟩)
      go_upto_region 7 with fail
      clear hkd h1 h0
      go_region_law (go_simp; go_at_call 16; refine (HC.out).mono ?_; rintro e wq ⟨rfl, HQ, hst⟩; obtain ⟨c7', ⟨xq, q1⟩, q2, HQ3⟩ := HPS.out _ HQ hst; clear HQ hst)
      all_goals (
        go_wp2_with fail
        go_roundw
        case rel => exact ⟨m + 1, by have := HLT.out; omega, rfl, by rw [hsucc.out]; exact HQ3⟩
        case measure => have := HLT.out; simp [intOf]; omega)
    · obtain rfl : m = 9 := by omega
      clear hm hlt
      have H9 := HI.out.fewer (L' := [(w.heap.size + 1, z49)]) (fun p hp => List.mem_cons_of_mem _ hp)
      obtain ⟨F9, h9, b9⟩ := H9.here
      obtain ⟨g9, o9, k9', c9, hset⟩ := protoSet h9 (by show 0 < 12; omega)
      rw [Nat.zero_add, show (newK a s 9).protos.length = 12 from rfl] at c9
      obtain ⟨q1, -, -⟩ := hset 2 (by show 2 < 12; omega)
      obtain ⟨r1, r2, r3⟩ := hset 3 (by show 3 < 12; omega)
      have e1 : (newK a s 9).protos[2]'(by show 2 < 12; omega) = handleM a s 2 := rfl
      rw [e1] at q1
      have HQ3 := Lib.hid (b9 _ _ (r3 (handleM a s 2)))
      clear e1 r3 hset b9 h9 H9 HI
      have e9 : { newK a s 9 with protos := (newK a s 9).protos.set 3 (handleM a s 2) } = { newK a s 9 with protos := hps a s } := rfl
      rw [e9] at HQ3
      clear e9
      go_upto_region 9 with fail
      go_cut [] (fun wx => OwnL hpR w wx bh { newK a s 9 with protos := hps a s } [(w.heap.size + 1, z49)])
      case first =>
        go_region_law (fail)
        all_goals (
          go_wp2_with fail
          go_meet
          exact HQ3.out.still ((Chg.refl _ _).drewR))
      case rest =>
      clear c9 q1 r1 r2 HQ3 HC
      have HC := Lib.hid (hcut.add 0 (handleM a s 0) rfl (Few.of 10 (by show 10 ≤ 10; omega) (by omega)) rfl)
      rw [show ({ newK a s 9 with protos := hps a s } : Hp).slots.length = 10 from rfl, show ({ newK a s 9 with protos := hps a s } : Hp).base = a from rfl, show ({ newK a s 9 with protos := hps a s } : Hp).stride = s from rfl] at HC
      go_upto_region 11 with (go_at_call 16; refine (HC.out).mono ?_; rintro e wa ⟨rfl, HA, -⟩; obtain ⟨Fa, ha, ba⟩ := HA.here; obtain ⟨-, -, -, -, -, c5, c6, -⟩ := hpCells ha; rw [Nat.zero_add] at c5 c6; have f6 := ha.frozen 6; have HA6 := Lib.hid (ba _ _ (ha.setPost hpR_texts (y := handleM a s ((10 : Nat) : Int)) (v := .int .i64 (handleM a s ((10 : Nat) : Int))) rfl)); clear HC)
      rw [Nat.zero_add] at HA6
      clear c5 c6 f6 ba ha HA hcut
      have HB := HA6.out
      generalize wa.setCell ⟨bh, 6, none⟩ (.int .i64 (handleM a s ((10 : Nat) : Int))) = wb at *
      have HB2 : OwnL hpR w wb bh (hpT a s) [(w.heap.size + 1, z49)] := HB
      have HC := Lib.hid (HB2.add 0 (handleM a s 0) rfl (Few.of 11 (by show 11 ≤ 11; omega) (by omega)) rfl)
      rw [show (hpT a s).slots.length = 11 from rfl, show (hpT a s).base = a from rfl, show (hpT a s).stride = s from rfl] at HC
      clear HA6 HB HB2
      go_upto_region 12 with (go_at_call 16; refine (HC.out).mono ?_; rintro e wa ⟨rfl, HA, -⟩; obtain ⟨Fa, ha, ba⟩ := HA.here; obtain ⟨-, -, -, -, -, c5, c6, -⟩ := hpCells ha; rw [Nat.zero_add] at c5 c6; have f5 := ha.frozen 5; have HA6 := Lib.hid (ba _ _ (ha.setPost hpR_global (y := handleM a s ((11 : Nat) : Int)) (v := .int .i64 (handleM a s ((11 : Nat) : Int))) rfl)); clear HC)
      rw [Nat.zero_add] at HA6
      have HB : OwnL hpR w (wa.setCell ⟨bh, 5, none⟩ (.int .i64 (handleM a s ((11 : Nat) : Int)))) bh (newM a s) [(w.heap.size + 1, z49)] := HA6.out
      clear c5 c6 f5 ba ha HA HA6
      generalize wa.setCell ⟨bh, 5, none⟩ (.int .i64 (handleM a s ((11 : Nat) : Int))) = wb2 at *
      have hr := HB.get (k := w.heap.size + 1) (o := z49) (List.mem_cons_self ..)
      obtain ⟨F, ho, hL⟩ := HB.ex
      obtain ⟨cs, hcs, hcell⟩ := ho.here.cell
      have hcs' := hcs
      obtain ⟨v1, v2, v3, F1, F2', F3, rfl, o1, o2, o3, hF⟩ := hcs'
      obtain ⟨x1, y1, p1⟩ := Rep.opened o1
      obtain ⟨n1, m1, rfl, -⟩ := p1.val
      obtain ⟨x2, y2, p2⟩ := Rep.opened o2
      obtain ⟨n2, m2, rfl, -⟩ := p2.val
      obtain ⟨x3, y3, p3⟩ := Rep.opened o3
      obtain ⟨n3, m3, rfl, -⟩ := p3.val
      have t0 := hcell 0 _ rfl
      have t1 := hcell 1 _ rfl
      have t2 := hcell 2 _ rfl
      have t3 := hcell 3 _ rfl
      have t4 := hcell 4 _ rfl
      have t5 := hcell 5 _ rfl
      have t6 := hcell 6 _ rfl
      have t7 := hcell 7 _ rfl
      simp only [Nat.zero_add] at t0 t1 t2 t3 t4 t5 t6 t7
      have HCS := Lib.hid hcs
      have HLO := Lib.hid ho.los
      have HND := Lib.hid ho.here.nd
      have HCH := Lib.hid ho.chg
      have HNF := Lib.hid (hL (w.heap.size + 1, z49) (List.mem_cons_self ..)).2.2
      have HR := Lib.hid hr
      clear hcs hcell ho hL HB o1 o2 o3 p1 p2 p3 hF
      unfold z49 at hr
      have z0 : wb2.cell? ⟨w.heap.size + 1, 0, none⟩ = some (.int .i64 0) := cell_of_block hr rfl
      have y0 : wb2.frozen? ⟨w.heap.size + 1, 0, none⟩ = false := frozen_of_block hr
      have z1 : wb2.cell? ⟨w.heap.size + 1, 1, none⟩ = some (.int .i64 0) := cell_of_block hr rfl
      have y1 : wb2.frozen? ⟨w.heap.size + 1, 1, none⟩ = false := frozen_of_block hr
      have z2 : wb2.cell? ⟨w.heap.size + 1, 2, none⟩ = some (.slice none 0 0) := cell_of_block hr rfl
      have y2 : wb2.frozen? ⟨w.heap.size + 1, 2, none⟩ = false := frozen_of_block hr
      have z3 : wb2.cell? ⟨w.heap.size + 1, 3, none⟩ = some (.slice none 0 0) := cell_of_block hr rfl
      have y3 : wb2.frozen? ⟨w.heap.size + 1, 3, none⟩ = false := frozen_of_block hr
      have z4 : wb2.cell? ⟨w.heap.size + 1, 4, none⟩ = some (.int .i64 0) := cell_of_block hr rfl
      have y4 : wb2.frozen? ⟨w.heap.size + 1, 4, none⟩ = false := frozen_of_block hr
      have z5 : wb2.cell? ⟨w.heap.size + 1, 5, none⟩ = some (.int .i64 0) := cell_of_block hr rfl
      have y5 : wb2.frozen? ⟨w.heap.size + 1, 5, none⟩ = false := frozen_of_block hr
      have z6 : wb2.cell? ⟨w.heap.size + 1, 6, none⟩ = some (.int .i64 0) := cell_of_block hr rfl
      have y6 : wb2.frozen? ⟨w.heap.size + 1, 6, none⟩ = false := frozen_of_block hr
      have z7 : wb2.cell? ⟨w.heap.size + 1, 7, none⟩ = some (.slice none 0 0) := cell_of_block hr rfl
      have y7 : wb2.frozen? ⟨w.heap.size + 1, 7, none⟩ = false := frozen_of_block hr
      clear hr
      go_wp2_with fail
      clear z0 z1 z2 z3 z4 z5 z6 z7 y0 y1 y2 y3 y4 y5 y6 y7 t0 t1 t2 t3 t4 t5 t6 t7
      obtain ⟨W1, hW1, hb1, hc1⟩ := setAll8 HR.out (.int .i64 (newM a s).base) (.int .i64 (newM a s).stride) (.slice n1 (newM a s).slots.length m1) (.slice n2 (newM a s).free.length m2) (.int .i64 (newM a s).live) (.int .i64 (newM a s).global) (.int .i64 (newM a s).texts) (.slice n3 (newM a s).protos.length m3)
      rw [hW1]
      clear hW1
      refine bodyPost_ret (results_cell_row rfl _ _ (w.heap.size + 1) _ _ _ _ (by rfl) hb1 Tryd.underlying31 rfl (by kernel_rfl)) rfl ?_
      exact ⟨_, rfl, _, hpR.chg HCS.out hc1 (fun k hk e => HNF.out (e ▸ hk)), HND.out, HLO.out, HCH.out.trans hc1 (fun _ _ x => x) (fun i hi e => by omega)⟩
end Go.Proofs.YthiiehanlconeaaDoor
