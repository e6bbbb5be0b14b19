/-
  Slices that are only read; slices.Clone of integers, strings, nodes.
  Messages in memory (only read); history's copied.
  A region that draws its order is cut in two: a head, whose operations come up in any order, and a tail, which waits for the whole head and has one order. (What the head's loads read may be stored into by the tail.)
  Histories in memory; Current.
  slices.Delete of values, of properties.
  History.Current.
  History.shown: whether a page has an entry.
  What changes of a history leave.
-/
import Derived.Test.YtiecgbmeobpomaaDoorPHistoryNewa
import Derived.Lib.SliceRun
import Derived.Lib.Hide
import Derived.WalkKit
import Derived.WalkSpells
import Derived.WalkLawsBesides
import Derived.StillTailTactics
import Derived.IntWalk
import Derived.Laws.Rows
import Derived.Laws.StructEq
import Derived.Deep.RegionHeld3
import Derived.Deep.RegionLaw
import Derived.Deep.CutBlock
import Derived.StillTail
import Derived.Laws.AppendOwn
import Derived.Laws.IdiomCopy
import Derived.Deep.QuietTactic
import Derived.BigQuiet
namespace Go.Proofs.YtiecgbmeobpomaaDoor
open Go.RowKit
set_option linter.unusedVariables false
set_option linter.unusedSimpArgs false

/-- A slice that is only read, whose block is none of D. -/
def SeenN (D : Nat → Prop) (w : World) (size : Nat) (v : Value) (n : Nat) (xs : List Value) : Prop :=
  ∃ p cap, v = .slice p n cap ∧ n ≤ cap ∧ cap ≤ maxLen ∧ xs.length = n * size ∧ (p = none → n = 0) ∧ (0 < n → ∃ g off, p = some ⟨g, off, none⟩ ∧ ¬ D g ∧ g < w.heap.size ∧ ∀ j u, xs[j]? = some u → w.cell? ⟨g, off + j, none⟩ = some u)
section
variable {D D' : Nat → Prop} {w w' : World} {size n : Nat} {v : Value} {xs : List Value}
theorem SeenN.val (h : SeenN D w size v n xs) : ∃ p cap, v = .slice p n cap ∧ n ≤ cap ∧ cap ≤ maxLen := by
  obtain ⟨p, cap, h1, h2, h3, -⟩ := h
  exact ⟨p, cap, h1, h2, h3⟩
theorem SeenN.chg {S : Nat → Prop} (h : SeenN D w size v n xs) (hc : Chg S w w') (hS : ∀ k, k < w.heap.size → S k → D k) (hD : ∀ k, k < w.heap.size → D' k → D k) : SeenN D' w' size v n xs := by
  obtain ⟨p, cap, rfl, h1, h2, h3, h4, h5⟩ := h
  refine ⟨p, cap, rfl, h1, h2, h3, h4, fun hn => ?_⟩
  obtain ⟨g, off, rfl, g1, g2, g3⟩ := h5 hn
  exact ⟨g, off, rfl, fun x => g1 (hD g g2 x), Nat.lt_of_lt_of_le g2 hc.size, fun j u hu => hc.cellS (g3 j u hu) (fun x => g1 (hS g g2 x))⟩
theorem SeenN.still (h : SeenN D w size v n xs) (hc : Chg (fun _ => False) w w') : SeenN D w' size v n xs := h.chg hc (fun _ _ x => x.elim) (fun _ _ x => x)
theorem SeenN.ofRow {e : TypeId} (h : RowAt w e size v n xs) (hD : ∀ k, v.ownBlock = some k → ¬ D k) : SeenN D w size v n xs := by
  obtain ⟨a, cap, rfl, h1, h2⟩ := h.slice
  refine ⟨a, cap, rfl, h1, h2, h.1, fun e => ?_, fun hn => ?_⟩
  · subst e
    rcases h.2 with ⟨hv, hn⟩ | ⟨g, off, c, cur, hv, -⟩
    · exact hn
    · cases hv
  · obtain ⟨g, off, cap', hv, -, -⟩ := h.addr hn
    cases hv
    have hob : (Value.slice (some ⟨g, off, none⟩) n cap).ownBlock = some g := rfl
    exact ⟨g, off, rfl, hD g hob, h.lt g hob, fun j u hu => h.cellAt j u hu⟩
theorem SeenN.at (h : SeenN D w size v n xs) (hn : 0 < n) : ∃ g off cap, v = .slice (some ⟨g, off, none⟩) n cap ∧ ¬ D g ∧ g < w.heap.size ∧ ∀ j u, xs[j]? = some u → w.cell? ⟨g, off + j, none⟩ = some u := by
  obtain ⟨p, cap, rfl, h1, h2, h3, h4, h5⟩ := h
  obtain ⟨g, off, rfl, g1, g2, g3⟩ := h5 hn
  exact ⟨g, off, cap, rfl, g1, g2, g3⟩
end
def strC (l : List ByteArray) : List Value := l.map Value.string
def intC (l : List Int) : List Value := l.map (Value.int .i64)
theorem strC_len (l : List ByteArray) : (strC l).length = l.length := List.length_map ..
theorem intC_len (l : List Int) : (intC l).length = l.length := List.length_map ..
theorem strC_ones (l : List ByteArray) : Ones (strC l) := fun u hu => by obtain ⟨x, -, rfl⟩ := List.mem_map.1 hu; rfl
theorem intC_ones (l : List Int) : Ones (intC l) := fun u hu => by obtain ⟨x, -, rfl⟩ := List.mem_map.1 hu; rfl
theorem elem_int : Elem Tryd.prog 3 1 8 := elem_of (by kernel_rfl)
theorem elem_str : Elem Tryd.prog 9 1 16 := elem_of (by kernel_rfl)
theorem elem_node : Elem Tryd.prog 85 5 80 := elem_of (by kernel_rfl)
set_option maxHeartbeats 1600000 in
set_option maxRecDepth 100000 in
theorem cloneI {D : Nat → Prop} (w : World) (v : Value) (n : Nat) (xs : List Value) (h : SeenN D w 1 v n xs) (h1c : Ones xs) (hf : Few n) :
    Calls Tryd.prog 51 #[v] w fun e w' => ∃ v', e = .returned v' ∧ RowAt w' 3 1 v' n xs ∧ (∀ k, v'.ownBlock = some k → w.heap.size ≤ k) ∧ Chg (fun _ => False) w w' := by
  obtain ⟨p, cap, rfl, h1, h2, h3, h4, h5⟩ := h
  have HE := Lib.hid elem_int
  have heq := fun (W : World) => Lib.run_eql_slice_nil (P := Tryd.prog) W 26 3 p n cap 0 0 Tryd.underlying26
  cases p with
  | none =>
    have hn : n = 0 := h4 rfl
    subst hn
    have hx : xs = [] := List.length_eq_zero_iff.1 (by omega)
    subst hx
    have heq0 : ∀ W : World, (binOp .eql 26 (.slice none 0 cap) (.slice none 0 0)).run Tryd.prog W = .ok (.bool true) W := by
      intro W
      have := heq W
      simpa using this
    clear heq h3 h4 h5
    go_enter Tryd.func51, Tryd.ntmps51
    go_wp2_with fail
    go_ret
    exact ⟨_, rfl, RowAt.nil _ _ _, by simp [Value.ownBlock], .refl _ _⟩
  | some ad =>
    have hch1 := Chg.alloc (fun _ => False) w (.cells #[] 3)
    have hrow1 := RowAt.fresh w 3 1 3 rfl
    have hsrc : Src Tryd.prog 1 26 (.slice (some ad) n cap) n xs (w.alloc (.cells #[] 3)) := by
      refine Src.ofSlice _ Tryd.underlying26 ad n cap _ h3 ?_ h1c
      intro j u hu
      have hj := (List.getElem?_eq_some_iff.1 hu).1
      have hn : 0 < n := by
        apply Nat.pos_of_ne_zero
        rintro rfl
        omega
      obtain ⟨g, off, hh, -, -, hcl⟩ := h5 hn
      cases hh
      rw [show (⟨g, off, none⟩ : Addr).add j = ⟨g, off + j, none⟩ from by unfold Addr.add; split <;> simp_all]
      exact hch1.cell (hcl j u hu)
    obtain ⟨i, z, hi, hz, hs1, hs2, hs3⟩ := HE.out
    have HI := Lib.hid hi
    have HZ := Lib.hid hz
    have H1 := Lib.hid hs1
    have H2 := Lib.hid hs2
    have H3 := Lib.hid hs3
    have HF := Lib.hid hf
    clear hi hz hs1 hs2 hs3 h3 h4 h5 h1c hf
    go_enter Tryd.func51, Tryd.ntmps51
    go_wp2_with (first
      | (at_builtin; refine wpList_append_slice _ rfl (.tmp 5) (.tmp 6) 26 26 rfl 3 i z 1 8 Tryd.underlying26 HI.out HZ.out H1.out H2.out H3.out (by decide) _ 0 [] rfl hrow1 _ n xs rfl hsrc (by have := HF.out.lt; unfold maxLen; omega) (by have := HF.out.lt; omega) ?_; intro a2 n2 c2 w2 hrow2 hchg2 hold2))
    go_ret
    refine ⟨_, rfl, by simpa using hrow2, ?_, ?_⟩
    · intro k hk
      rcases hold2 k hk with x | x
      · have x' : some w.heap.size = some k := x
        cases x'
        exact Nat.le_refl _
      · have := hch1.size; omega
    · refine hch1.trans hchg2 (fun _ _ x => x) (fun i hi x => ?_)
      have x' : some w.heap.size = some i := x
      cases x'
      exact Nat.lt_irrefl _ hi
set_option maxHeartbeats 1600000 in
set_option maxRecDepth 100000 in
theorem cloneS {D : Nat → Prop} (w : World) (v : Value) (n : Nat) (xs : List Value) (h : SeenN D w 1 v n xs) (h1c : Ones xs) (hf : Few n) :
    Calls Tryd.prog 50 #[v] w fun e w' => ∃ v', e = .returned v' ∧ RowAt w' 9 1 v' n xs ∧ (∀ k, v'.ownBlock = some k → w.heap.size ≤ k) ∧ Chg (fun _ => False) w w' := by
  obtain ⟨p, cap, rfl, h1, h2, h3, h4, h5⟩ := h
  have HE := Lib.hid elem_str
  have heq := fun (W : World) => Lib.run_eql_slice_nil (P := Tryd.prog) W 83 9 p n cap 0 0 Tryd.underlying83
  cases p with
  | none =>
    have hn : n = 0 := h4 rfl
    subst hn
    have hx : xs = [] := List.length_eq_zero_iff.1 (by omega)
    subst hx
    have heq0 : ∀ W : World, (binOp .eql 83 (.slice none 0 cap) (.slice none 0 0)).run Tryd.prog W = .ok (.bool true) W := by
      intro W
      have := heq W
      simpa using this
    clear heq h3 h4 h5
    go_enter Tryd.func50, Tryd.ntmps50
    go_wp2_with fail
    go_ret
    exact ⟨_, rfl, RowAt.nil _ _ _, by simp [Value.ownBlock], .refl _ _⟩
  | some ad =>
    have hch1 := Chg.alloc (fun _ => False) w (.cells #[] 9)
    have hrow1 := RowAt.fresh w 9 1 9 rfl
    have hsrc : Src Tryd.prog 1 83 (.slice (some ad) n cap) n xs (w.alloc (.cells #[] 9)) := by
      refine Src.ofSlice _ Tryd.underlying83 ad n cap _ h3 ?_ h1c
      intro j u hu
      have hj := (List.getElem?_eq_some_iff.1 hu).1
      have hn : 0 < n := by
        apply Nat.pos_of_ne_zero
        rintro rfl
        omega
      obtain ⟨g, off, hh, -, -, hcl⟩ := h5 hn
      cases hh
      rw [show (⟨g, off, none⟩ : Addr).add j = ⟨g, off + j, none⟩ from by unfold Addr.add; split <;> simp_all]
      exact hch1.cell (hcl j u hu)
    obtain ⟨i, z, hi, hz, hs1, hs2, hs3⟩ := HE.out
    have HI := Lib.hid hi
    have HZ := Lib.hid hz
    have H1 := Lib.hid hs1
    have H2 := Lib.hid hs2
    have H3 := Lib.hid hs3
    have HF := Lib.hid hf
    clear hi hz hs1 hs2 hs3 h3 h4 h5 h1c hf
    go_enter Tryd.func50, Tryd.ntmps50
    go_wp2_with (first
      | (at_builtin; refine wpList_append_slice _ rfl (.tmp 5) (.tmp 6) 83 83 rfl 9 i z 1 16 Tryd.underlying83 HI.out HZ.out H1.out H2.out H3.out (by decide) _ 0 [] rfl hrow1 _ n xs rfl hsrc (by have := HF.out.lt; unfold maxLen; omega) (by have := HF.out.lt; omega) ?_; intro a2 n2 c2 w2 hrow2 hchg2 hold2))
    go_ret
    refine ⟨_, rfl, by simpa using hrow2, ?_, ?_⟩
    · intro k hk
      rcases hold2 k hk with x | x
      · have x' : some w.heap.size = some k := x
        cases x'
        exact Nat.le_refl _
      · have := hch1.size; omega
    · refine hch1.trans hchg2 (fun _ _ x => x) (fun i hi x => ?_)
      have x' : some w.heap.size = some i := x
      cases x'
      exact Nat.lt_irrefl _ hi
set_option maxHeartbeats 1600000 in
set_option maxRecDepth 100000 in
theorem cloneN {D : Nat → Prop} (w : World) (v : Value) (n : Nat) (xs : List Value) (h : SeenN D w 5 v n xs) (h1c : Ones xs) (hf : Few n) :
    Calls Tryd.prog 49 #[v] w fun e w' => ∃ v', e = .returned v' ∧ RowAt w' 85 5 v' n xs ∧ (∀ k, v'.ownBlock = some k → w.heap.size ≤ k) ∧ Chg (fun _ => False) w w' := by
  obtain ⟨p, cap, rfl, h1, h2, h3, h4, h5⟩ := h
  have HE := Lib.hid elem_node
  have heq := fun (W : World) => Lib.run_eql_slice_nil (P := Tryd.prog) W 30 85 p n cap 0 0 Tryd.underlying30
  cases p with
  | none =>
    have hn : n = 0 := h4 rfl
    subst hn
    have hx : xs = [] := List.length_eq_zero_iff.1 (by omega)
    subst hx
    have heq0 : ∀ W : World, (binOp .eql 30 (.slice none 0 cap) (.slice none 0 0)).run Tryd.prog W = .ok (.bool true) W := by
      intro W
      have := heq W
      simpa using this
    clear heq h3 h4 h5
    go_enter Tryd.func49, Tryd.ntmps49
    go_wp2_with fail
    go_ret
    exact ⟨_, rfl, RowAt.nil _ _ _, by simp [Value.ownBlock], .refl _ _⟩
  | some ad =>
    have hch1 := Chg.alloc (fun _ => False) w (.cells #[] 85)
    have hrow1 := RowAt.fresh w 85 5 85 rfl
    have hsrc : Src Tryd.prog 5 30 (.slice (some ad) n cap) n xs (w.alloc (.cells #[] 85)) := by
      refine Src.ofSlice _ Tryd.underlying30 ad n cap _ h3 ?_ h1c
      intro j u hu
      have hj := (List.getElem?_eq_some_iff.1 hu).1
      have hn : 0 < n := by
        apply Nat.pos_of_ne_zero
        rintro rfl
        omega
      obtain ⟨g, off, hh, -, -, hcl⟩ := h5 hn
      cases hh
      rw [show (⟨g, off, none⟩ : Addr).add j = ⟨g, off + j, none⟩ from by unfold Addr.add; split <;> simp_all]
      exact hch1.cell (hcl j u hu)
    obtain ⟨i, z, hi, hz, hs1, hs2, hs3⟩ := HE.out
    have HI := Lib.hid hi
    have HZ := Lib.hid hz
    have H1 := Lib.hid hs1
    have H2 := Lib.hid hs2
    have H3 := Lib.hid hs3
    have HF := Lib.hid hf
    clear hi hz hs1 hs2 hs3 h3 h4 h5 h1c hf
    go_enter Tryd.func49, Tryd.ntmps49
    go_wp2_with (first
      | (at_builtin; refine wpList_append_slice _ rfl (.tmp 5) (.tmp 6) 30 30 rfl 85 i z 5 80 Tryd.underlying30 HI.out HZ.out H1.out H2.out H3.out (by decide) _ 0 [] rfl hrow1 _ n xs rfl hsrc (by have := HF.out.lt; unfold maxLen; omega) (by have := HF.out.lt; omega) ?_; intro a2 n2 c2 w2 hrow2 hchg2 hold2))
    go_ret
    refine ⟨_, rfl, by simpa using hrow2, ?_, ?_⟩
    · intro k hk
      rcases hold2 k hk with x | x
      · have x' : some w.heap.size = some k := x
        cases x'
        exact Nat.le_refl _
      · have := hch1.size; omega
    · refine hch1.trans hchg2 (fun _ _ x => x) (fun i hi x => ?_)
      have x' : some w.heap.size = some i := x
      cases x'
      exact Nat.lt_irrefl _ hi
end Go.Proofs.YtiecgbmeobpomaaDoor
namespace Go.Proofs.YtiecgbmeobpomaaDoor
open Go.RowKit
set_option linter.unusedVariables false
set_option linter.unusedSimpArgs false

structure Nod where
  kind : Int
  int : Int
  str : ByteArray
  keys : List ByteArray
  kids : List Int
/-- A node as it lies: its lists are slices. -/
structure NodR where
  kind : Int
  int : Int
  str : ByteArray
  vk : Value
  vd : Value
def NodR.cells (r : NodR) : List Value := [.int .i64 r.kind, .int .i64 r.int, .string r.str, r.vk, r.vd]
theorem NodR.len (r : NodR) : r.cells.length = 5 := rfl
structure NodAt (D : Nat → Prop) (w : World) (r : NodR) (n : Nod) : Prop where
  kind : r.kind = n.kind
  int : r.int = n.int
  str : r.str = n.str
  keys : SeenN D w 1 r.vk n.keys.length (strC n.keys)
  kids : SeenN D w 1 r.vd n.kids.length (intC n.kids)
section
variable {D D' : Nat → Prop} {w w' : World} {r : NodR} {n : Nod}
theorem NodAt.chg {S : Nat → Prop} (h : NodAt D w r n) (hc : Chg S w w') (hS : ∀ k, k < w.heap.size → S k → D k) (hD : ∀ k, k < w.heap.size → D' k → D k) : NodAt D' w' r n :=
  ⟨h.kind, h.int, h.str, h.keys.chg hc hS hD, h.kids.chg hc hS hD⟩
end
structure Msg where
  nodes : List Nod
  ports : List Int
/-- Small enough for every append. -/
structure MsgOk (m : Msg) : Prop where
  nodes : Few m.nodes.length
  ports : Few m.ports.length
  each : ∀ n ∈ m.nodes, Few n.keys.length ∧ Few n.kids.length
structure MsgAt (D : Nat → Prop) (w : World) (vn vp : Value) (m : Msg) : Prop where
  ex : ∃ rs : List NodR, rs.length = m.nodes.length ∧ (∀ i (h : i < rs.length) (h' : i < m.nodes.length), NodAt D w rs[i] m.nodes[i]) ∧ SeenN D w 5 vn rs.length (rs.flatMap NodR.cells)
  ports : SeenN D w 1 vp m.ports.length (intC m.ports)
theorem MsgAt.chg {D D' S : Nat → Prop} {w w' : World} {vn vp : Value} {m : Msg} (h : MsgAt D w vn vp m) (hc : Chg S w w') (hS : ∀ k, k < w.heap.size → S k → D k) (hD : ∀ k, k < w.heap.size → D' k → D k) : MsgAt D' w' vn vp m := by
  obtain ⟨⟨rs, h1, h2, h3⟩, h4⟩ := h
  exact ⟨⟨rs, h1, fun i a b => (h2 i a b).chg hc hS hD, h3.chg hc hS hD⟩, h4.chg hc hS hD⟩
theorem SeenN.one {D : Nat → Prop} {w : World} {size n : Nat} {v : Value} {xs : List Value} (h : SeenN D w size v n xs) : v.oneCell' = true := by
  obtain ⟨p, cap, rfl, -⟩ := h
  rfl
theorem nodes_ones {D : Nat → Prop} {w : World} {rs : List NodR} {ns : List Nod} (hl : rs.length = ns.length) (h : ∀ i (h : i < rs.length) (h' : i < ns.length), NodAt D w rs[i] ns[i]) : Ones (rs.flatMap NodR.cells) := fun u hu => by
  obtain ⟨r, hr, hu⟩ := List.mem_flatMap.1 hu
  obtain ⟨i, hi, rfl⟩ := List.getElem_of_mem hr
  have hn := h i hi (by omega)
  unfold NodR.cells at hu
  simp only [List.mem_cons, List.not_mem_nil, or_false] at hu
  rcases hu with rfl | rfl | rfl | rfl | rfl
  · rfl
  · rfl
  · rfl
  · exact hn.keys.one
  · exact hn.kids.one
theorem chg_put4 {W W' : World} {b k : Nat} {v : Value} (h : Chg (fun j => j = b) W W') : Chg (fun j => j = b) W (W'.setCell ⟨b, k, none⟩ v) := h.trans' (show Chg (fun j => j = b) W' (W'.setCell ⟨b, k, none⟩ v) from Chg.setCell W' ⟨b, k, none⟩ v)
/-- The cells of a block stored one after the other. -/
theorem store8 {w : World} {g T : Nat} {u0 u1 u2 u3 u4 u5 u6 u7 : Value} (b0 : w.heap[g]? = some (.cells #[u0, u1, u2, u3, u4, u5, u6, u7] T (0, 0))) (v0 v1 v2 v3 v4 v5 v6 v7 : Value) :
    w.cell? ⟨g, 0, none⟩ = some u0 ∧ w.frozen? ⟨g, 0, none⟩ = false ∧
    (w.setCell ⟨g, 0, none⟩ v0).cell? ⟨g, 1, none⟩ = some u1 ∧ (w.setCell ⟨g, 0, none⟩ v0).frozen? ⟨g, 1, none⟩ = false ∧
    ((w.setCell ⟨g, 0, none⟩ v0).setCell ⟨g, 1, none⟩ v1).cell? ⟨g, 2, none⟩ = some u2 ∧ ((w.setCell ⟨g, 0, none⟩ v0).setCell ⟨g, 1, none⟩ v1).frozen? ⟨g, 2, none⟩ = false ∧
    (((w.setCell ⟨g, 0, none⟩ v0).setCell ⟨g, 1, none⟩ v1).setCell ⟨g, 2, none⟩ v2).cell? ⟨g, 3, none⟩ = some u3 ∧ (((w.setCell ⟨g, 0, none⟩ v0).setCell ⟨g, 1, none⟩ v1).setCell ⟨g, 2, none⟩ v2).frozen? ⟨g, 3, none⟩ = false ∧
    ((((w.setCell ⟨g, 0, none⟩ v0).setCell ⟨g, 1, none⟩ v1).setCell ⟨g, 2, none⟩ v2).setCell ⟨g, 3, none⟩ v3).cell? ⟨g, 4, none⟩ = some u4 ∧ ((((w.setCell ⟨g, 0, none⟩ v0).setCell ⟨g, 1, none⟩ v1).setCell ⟨g, 2, none⟩ v2).setCell ⟨g, 3, none⟩ v3).frozen? ⟨g, 4, none⟩ = false ∧
    (((((w.setCell ⟨g, 0, none⟩ v0).setCell ⟨g, 1, none⟩ v1).setCell ⟨g, 2, none⟩ v2).setCell ⟨g, 3, none⟩ v3).setCell ⟨g, 4, none⟩ v4).cell? ⟨g, 5, none⟩ = some u5 ∧ (((((w.setCell ⟨g, 0, none⟩ v0).setCell ⟨g, 1, none⟩ v1).setCell ⟨g, 2, none⟩ v2).setCell ⟨g, 3, none⟩ v3).setCell ⟨g, 4, none⟩ v4).frozen? ⟨g, 5, none⟩ = false ∧
    ((((((w.setCell ⟨g, 0, none⟩ v0).setCell ⟨g, 1, none⟩ v1).setCell ⟨g, 2, none⟩ v2).setCell ⟨g, 3, none⟩ v3).setCell ⟨g, 4, none⟩ v4).setCell ⟨g, 5, none⟩ v5).cell? ⟨g, 6, none⟩ = some u6 ∧ ((((((w.setCell ⟨g, 0, none⟩ v0).setCell ⟨g, 1, none⟩ v1).setCell ⟨g, 2, none⟩ v2).setCell ⟨g, 3, none⟩ v3).setCell ⟨g, 4, none⟩ v4).setCell ⟨g, 5, none⟩ v5).frozen? ⟨g, 6, none⟩ = false ∧
    (((((((w.setCell ⟨g, 0, none⟩ v0).setCell ⟨g, 1, none⟩ v1).setCell ⟨g, 2, none⟩ v2).setCell ⟨g, 3, none⟩ v3).setCell ⟨g, 4, none⟩ v4).setCell ⟨g, 5, none⟩ v5).setCell ⟨g, 6, none⟩ v6).cell? ⟨g, 7, none⟩ = some u7 ∧ (((((((w.setCell ⟨g, 0, none⟩ v0).setCell ⟨g, 1, none⟩ v1).setCell ⟨g, 2, none⟩ v2).setCell ⟨g, 3, none⟩ v3).setCell ⟨g, 4, none⟩ v4).setCell ⟨g, 5, none⟩ v5).setCell ⟨g, 6, none⟩ v6).frozen? ⟨g, 7, none⟩ = false ∧
    ((((((((w.setCell ⟨g, 0, none⟩ v0).setCell ⟨g, 1, none⟩ v1).setCell ⟨g, 2, none⟩ v2).setCell ⟨g, 3, none⟩ v3).setCell ⟨g, 4, none⟩ v4).setCell ⟨g, 5, none⟩ v5).setCell ⟨g, 6, none⟩ v6).setCell ⟨g, 7, none⟩ v7).heap[g]? = some (.cells #[v0, v1, v2, v3, v4, v5, v6, v7] T (0, 0)) ∧ Chg (fun k => k = g) w ((((((((w.setCell ⟨g, 0, none⟩ v0).setCell ⟨g, 1, none⟩ v1).setCell ⟨g, 2, none⟩ v2).setCell ⟨g, 3, none⟩ v3).setCell ⟨g, 4, none⟩ v4).setCell ⟨g, 5, none⟩ v5).setCell ⟨g, 6, none⟩ v6).setCell ⟨g, 7, none⟩ v7) := by
  have c0 : w.cell? ⟨g, 0, none⟩ = some u0 := cell_of_block b0 rfl
  have f0 : w.frozen? ⟨g, 0, none⟩ = false := frozen_of_block b0
  have b1 : (w.setCell ⟨g, 0, none⟩ v0).heap[g]? = some (.cells #[v0, u1, u2, u3, u4, u5, u6, u7] T (0, 0)) := setCell_block (i := 0) v0 b0
  have c1 : (w.setCell ⟨g, 0, none⟩ v0).cell? ⟨g, 1, none⟩ = some u1 := cell_of_block b1 rfl
  have f1 : (w.setCell ⟨g, 0, none⟩ v0).frozen? ⟨g, 1, none⟩ = false := frozen_of_block b1
  have b2 : ((w.setCell ⟨g, 0, none⟩ v0).setCell ⟨g, 1, none⟩ v1).heap[g]? = some (.cells #[v0, v1, u2, u3, u4, u5, u6, u7] T (0, 0)) := setCell_block (i := 1) v1 b1
  have c2 : ((w.setCell ⟨g, 0, none⟩ v0).setCell ⟨g, 1, none⟩ v1).cell? ⟨g, 2, none⟩ = some u2 := cell_of_block b2 rfl
  have f2 : ((w.setCell ⟨g, 0, none⟩ v0).setCell ⟨g, 1, none⟩ v1).frozen? ⟨g, 2, none⟩ = false := frozen_of_block b2
  have b3 : (((w.setCell ⟨g, 0, none⟩ v0).setCell ⟨g, 1, none⟩ v1).setCell ⟨g, 2, none⟩ v2).heap[g]? = some (.cells #[v0, v1, v2, u3, u4, u5, u6, u7] T (0, 0)) := setCell_block (i := 2) v2 b2
  have c3 : (((w.setCell ⟨g, 0, none⟩ v0).setCell ⟨g, 1, none⟩ v1).setCell ⟨g, 2, none⟩ v2).cell? ⟨g, 3, none⟩ = some u3 := cell_of_block b3 rfl
  have f3 : (((w.setCell ⟨g, 0, none⟩ v0).setCell ⟨g, 1, none⟩ v1).setCell ⟨g, 2, none⟩ v2).frozen? ⟨g, 3, none⟩ = false := frozen_of_block b3
  have b4 : ((((w.setCell ⟨g, 0, none⟩ v0).setCell ⟨g, 1, none⟩ v1).setCell ⟨g, 2, none⟩ v2).setCell ⟨g, 3, none⟩ v3).heap[g]? = some (.cells #[v0, v1, v2, v3, u4, u5, u6, u7] T (0, 0)) := setCell_block (i := 3) v3 b3
  have c4 : ((((w.setCell ⟨g, 0, none⟩ v0).setCell ⟨g, 1, none⟩ v1).setCell ⟨g, 2, none⟩ v2).setCell ⟨g, 3, none⟩ v3).cell? ⟨g, 4, none⟩ = some u4 := cell_of_block b4 rfl
  have f4 : ((((w.setCell ⟨g, 0, none⟩ v0).setCell ⟨g, 1, none⟩ v1).setCell ⟨g, 2, none⟩ v2).setCell ⟨g, 3, none⟩ v3).frozen? ⟨g, 4, none⟩ = false := frozen_of_block b4
  have b5 : (((((w.setCell ⟨g, 0, none⟩ v0).setCell ⟨g, 1, none⟩ v1).setCell ⟨g, 2, none⟩ v2).setCell ⟨g, 3, none⟩ v3).setCell ⟨g, 4, none⟩ v4).heap[g]? = some (.cells #[v0, v1, v2, v3, v4, u5, u6, u7] T (0, 0)) := setCell_block (i := 4) v4 b4
  have c5 : (((((w.setCell ⟨g, 0, none⟩ v0).setCell ⟨g, 1, none⟩ v1).setCell ⟨g, 2, none⟩ v2).setCell ⟨g, 3, none⟩ v3).setCell ⟨g, 4, none⟩ v4).cell? ⟨g, 5, none⟩ = some u5 := cell_of_block b5 rfl
  have f5 : (((((w.setCell ⟨g, 0, none⟩ v0).setCell ⟨g, 1, none⟩ v1).setCell ⟨g, 2, none⟩ v2).setCell ⟨g, 3, none⟩ v3).setCell ⟨g, 4, none⟩ v4).frozen? ⟨g, 5, none⟩ = false := frozen_of_block b5
  have b6 : ((((((w.setCell ⟨g, 0, none⟩ v0).setCell ⟨g, 1, none⟩ v1).setCell ⟨g, 2, none⟩ v2).setCell ⟨g, 3, none⟩ v3).setCell ⟨g, 4, none⟩ v4).setCell ⟨g, 5, none⟩ v5).heap[g]? = some (.cells #[v0, v1, v2, v3, v4, v5, u6, u7] T (0, 0)) := setCell_block (i := 5) v5 b5
  have c6 : ((((((w.setCell ⟨g, 0, none⟩ v0).setCell ⟨g, 1, none⟩ v1).setCell ⟨g, 2, none⟩ v2).setCell ⟨g, 3, none⟩ v3).setCell ⟨g, 4, none⟩ v4).setCell ⟨g, 5, none⟩ v5).cell? ⟨g, 6, none⟩ = some u6 := cell_of_block b6 rfl
  have f6 : ((((((w.setCell ⟨g, 0, none⟩ v0).setCell ⟨g, 1, none⟩ v1).setCell ⟨g, 2, none⟩ v2).setCell ⟨g, 3, none⟩ v3).setCell ⟨g, 4, none⟩ v4).setCell ⟨g, 5, none⟩ v5).frozen? ⟨g, 6, none⟩ = false := frozen_of_block b6
  have b7 : (((((((w.setCell ⟨g, 0, none⟩ v0).setCell ⟨g, 1, none⟩ v1).setCell ⟨g, 2, none⟩ v2).setCell ⟨g, 3, none⟩ v3).setCell ⟨g, 4, none⟩ v4).setCell ⟨g, 5, none⟩ v5).setCell ⟨g, 6, none⟩ v6).heap[g]? = some (.cells #[v0, v1, v2, v3, v4, v5, v6, u7] T (0, 0)) := setCell_block (i := 6) v6 b6
  have c7 : (((((((w.setCell ⟨g, 0, none⟩ v0).setCell ⟨g, 1, none⟩ v1).setCell ⟨g, 2, none⟩ v2).setCell ⟨g, 3, none⟩ v3).setCell ⟨g, 4, none⟩ v4).setCell ⟨g, 5, none⟩ v5).setCell ⟨g, 6, none⟩ v6).cell? ⟨g, 7, none⟩ = some u7 := cell_of_block b7 rfl
  have f7 : (((((((w.setCell ⟨g, 0, none⟩ v0).setCell ⟨g, 1, none⟩ v1).setCell ⟨g, 2, none⟩ v2).setCell ⟨g, 3, none⟩ v3).setCell ⟨g, 4, none⟩ v4).setCell ⟨g, 5, none⟩ v5).setCell ⟨g, 6, none⟩ v6).frozen? ⟨g, 7, none⟩ = false := frozen_of_block b7
  have b8 : ((((((((w.setCell ⟨g, 0, none⟩ v0).setCell ⟨g, 1, none⟩ v1).setCell ⟨g, 2, none⟩ v2).setCell ⟨g, 3, none⟩ v3).setCell ⟨g, 4, none⟩ v4).setCell ⟨g, 5, none⟩ v5).setCell ⟨g, 6, none⟩ v6).setCell ⟨g, 7, none⟩ v7).heap[g]? = some (.cells #[v0, v1, v2, v3, v4, v5, v6, v7] T (0, 0)) := setCell_block (i := 7) v7 b7
  exact ⟨c0, f0, c1, f1, c2, f2, c3, f3, c4, f4, c5, f5, c6, f6, c7, f7, b8, chg_put4 (chg_put4 (chg_put4 (chg_put4 (chg_put4 (chg_put4 (chg_put4 (chg_put4 (Chg.refl _ _))))))))⟩
def EntC (id page : Int) (url title : ByteArray) (vn vp : Value) (x y : Int) : Array Value := #[.int .i64 id, .int .i64 page, .string url, .string title, vn, vp, .int .i64 x, .int .i64 y]
/-- What the loop of copied has done up to node k. -/
structure CpI (W4 W : World) (n k : Nat) (v3 : Value) (rs0 rs : List NodR) (ns : List Nod) : Prop where
  row : RowAt W 85 5 v3 n (rs.flatMap NodR.cells)
  len : rs.length = n
  done : ∀ i (h : i < rs.length) (h' : i < ns.length), i < k → NodAt (fun b => b < W4.heap.size) W rs[i] ns[i]
  rest : ∀ i, k ≤ i → rs[i]? = rs0[i]?
  chg : Chg (fun b => v3.ownBlock = some b) W4 W
set_option maxHeartbeats 6400000 in
set_option maxRecDepth 100000 in
theorem copied_any {D : Nat → Prop} (w : World) (id page x y : Int) (url title : ByteArray) (vn vp : Value) (m : Msg) (h : MsgAt D w vn vp m) (hm : MsgOk m) :
    Calls Tryd.prog 38 #[.agg (EntC id page url title vn vp x y)] w fun e w' => ∃ vn' vp', e = .returned (.agg (EntC id page url title vn' vp' x y)) ∧ Chg (fun _ => False) w w' ∧ MsgAt (fun b => b < w.heap.size) w' vn' vp' m := by
  unfold EntC
  obtain ⟨⟨rs, hl, hns, hsn⟩, hsp⟩ := h
  obtain ⟨pn, cn, rfl, -, -⟩ := hsn.val
  obtain ⟨pp, cp, rfl, -, -⟩ := hsp.val
  have HNS := Lib.hid hns
  have HSN := Lib.hid hsn
  have HSP := Lib.hid hsp
  have HM := Lib.hid hm
  have HLN := Lib.hid hl
  have HON := Lib.hid (nodes_ones hl hns)
  clear hns hsn hsp hm hl
  have HC := Lib.hid ((Chg.alloc (fun _ => False) w (.cells #[.int .i64 id, .int .i64 page, .string url, .string title, .slice pn rs.length cn, .slice pp m.ports.length cp, .int .i64 x, .int .i64 y] 34)).allocR (.cells #[.int .i64 0, .int .i64 0, .string ⟨#[]⟩, .string ⟨#[]⟩, .slice none 0 0, .slice none 0 0, .int .i64 0, .int .i64 0] 34))
  have hb := alloc_block (w.alloc (.cells #[.int .i64 id, .int .i64 page, .string url, .string title, .slice pn rs.length cn, .slice pp m.ports.length cp, .int .i64 x, .int .i64 y] 34)) (.cells #[.int .i64 0, .int .i64 0, .string ⟨#[]⟩, .string ⟨#[]⟩, .slice none 0 0, .slice none 0 0, .int .i64 0, .int .i64 0] 34)
  rw [show (w.alloc (.cells #[.int .i64 id, .int .i64 page, .string url, .string title, .slice pn rs.length cn, .slice pp m.ports.length cp, .int .i64 x, .int .i64 y] 34)).heap.size = w.heap.size + 1 from Array.size_push ..] at hb
  have HB := Lib.hid hb
  have HKB := Lib.hid ((Chg.alloc (fun _ => False) (w.alloc (.cells #[.int .i64 id, .int .i64 page, .string url, .string title, .slice pn rs.length cn, .slice pp m.ports.length cp, .int .i64 x, .int .i64 y] 34)) (.cells #[.int .i64 0, .int .i64 0, .string ⟨#[]⟩, .string ⟨#[]⟩, .slice none 0 0, .slice none 0 0, .int .i64 0, .int .i64 0] 34)).keep (alloc_block w (.cells #[.int .i64 id, .int .i64 page, .string url, .string title, .slice pn rs.length cn, .slice pp m.ports.length cp, .int .i64 x, .int .i64 y] 34)) (fun x => x))
  clear hb
  go_enter Tryd.func38, Tryd.ntmps38
  go_upto_region 1 with fail
  generalize ((w.alloc (.cells #[.int .i64 id, .int .i64 page, .string url, .string title, .slice pn rs.length cn, .slice pp m.ports.length cp, .int .i64 x, .int .i64 y] 34)).alloc (.cells #[.int .i64 0, .int .i64 0, .string ⟨#[]⟩, .string ⟨#[]⟩, .slice none 0 0, .slice none 0 0, .int .i64 0, .int .i64 0] 34)) = w3 at *
  generalize hb1e : w.heap.size = b1 at HKB HB ⊢
  have HB1 := Lib.hid hb1e
  have HLT3 : Hid (b1 + 1 < w3.heap.size) := Lib.hid ((Array.getElem?_eq_some_iff.1 HB.out).1)
  clear hb1e
  have k4 := cell_of_block (i := 4) HKB.out rfl
  simp only [List.getElem_toArray, List.getElem_cons_zero, List.getElem_cons_succ] at k4
  have HCN := Lib.hid (cloneN w3 (.slice pn rs.length cn) rs.length (rs.flatMap NodR.cells) (HSN.out.still HC.out) HON.out (by rw [HLN.out]; exact HM.out.nodes))
  go_upto_region 2 with (go_at_call 49; refine HCN.out.mono ?_; rintro e w4 ⟨v3, rfl, hrow3, hlo3, hch3⟩)
  have HC4 := Lib.hid (HC.out.trans' hch3)
  have HK4 := Lib.hid (hch3.keep HKB.out (fun x => x))
  have HB4 := Lib.hid (hch3.keep HB.out (fun x => x))
  have HLO3 := Lib.hid hlo3
  have HLT4 := Lib.hid hrow3.lt
  have HSZ := Lib.hid hch3.size
  obtain ⟨a3, c3, rfl, -, -⟩ := hrow3.slice
  have HI0 : Hid (CpI w4 w4 rs.length 0 (.slice a3 rs.length c3) rs rs m.nodes) := Lib.hid ⟨hrow3, rfl, fun i _ _ h => by omega, fun i _ => rfl, Chg.refl _ _⟩
  clear HCN hrow3 hlo3 hch3 k4
  have hln : (rs.length : Int) ≤ 9223372036854775807 := by have := HM.out.nodes.lt; have := HLN.out; omega
  go_wp2_with fail
  go_loopw [4, 5, 12] (fun _ _ u12 wr => ∃ (k : Nat) (qs : List NodR), k ≤ rs.length ∧ u12 = .int .i64 k ∧ Hid (CpI w4 wr rs.length k (.slice a3 rs.length c3) rs qs m.nodes)) (fun _ _ u12 _ => rs.length - (intOf u12).toNat)
  case atStart => exact ⟨0, rs, by omega, rfl, HI0⟩
  case round =>
    clear HI0
    obtain ⟨k, qs, hk, rfl, HI⟩ := hrel
    by_cases hlt : k < rs.length
    · have i0 : (0 : Int) ≤ (k : Int) := by omega
      have i1 : (k : Int) < (rs.length : Int) := by omega
      have w64 : IntKind.i64.wrap ((k : Int) + 1) = ((k + 1 : Nat) : Int) := IntWalk.i64_in _ (by omega)
      have HLT := Lib.hid hlt
      have hrow := HI.out.row
      obtain ⟨g, off, cap', hv, -, -⟩ := hrow.addr (by omega)
      cases hv
      have hql : k < qs.length := by rw [HI.out.len]; exact hlt
      have hnk : k < m.nodes.length := by have := HLN.out; omega
      have hrk : k < rs.length := hlt
      have heq : qs[k] = rs[k] := by
        have := HI.out.rest k (Nat.le_refl _)
        rw [List.getElem?_eq_getElem hql, List.getElem?_eq_getElem hrk] at this
        exact Option.some.inj this
      have hchw : Chg (fun _ => False) w wr := HC4.out.trans HI.out.chg (fun _ _ x => x) (fun b hb x => by have := HLO3.out b x; have := HLT3.out; have := HB1.out; omega)
      have hnod := (HNS.out k hrk hnk).chg hchw (fun _ _ x => x.elim) (fun _ _ x => x)
      rw [← heq] at hnod
      have hcell : ∀ j u, qs[k].cells[j]? = some u → j < 5 → wr.cell? ⟨g, off + k * 5 + j, none⟩ = some u := fun j u hu hj => by
        rw [Nat.add_assoc]
        exact hrow.cellAt (k * 5 + j) u (by rw [flat_get _ 5 NodR.len qs k j hql hj]; exact hu)
      obtain ⟨pk, ck, hvk, -, -⟩ := hnod.keys.val
      obtain ⟨pd, cd, hvd, -, -⟩ := hnod.kids.val
      have hq := hnod
      obtain ⟨nki, hnki⟩ : ∃ z, qs[k].kind = z := ⟨_, rfl⟩
      obtain ⟨nin, hnin⟩ : ∃ z, qs[k].int = z := ⟨_, rfl⟩
      obtain ⟨nst, hnst⟩ : ∃ z, qs[k].str = z := ⟨_, rfl⟩
      have hqe : qs[k] = ⟨nki, nin, nst, .slice pk m.nodes[k].keys.length ck, .slice pd m.nodes[k].kids.length cd⟩ := by
        rw [← hnki, ← hnin, ← hnst, ← hvk, ← hvd]
      rw [hqe] at hcell hnod
      have c0 := hcell 0 _ rfl (by omega)
      have c1 := hcell 1 _ rfl (by omega)
      have c2 := hcell 2 _ rfl (by omega)
      have c3' := hcell 3 _ rfl (by omega)
      have c4 := hcell 4 _ rfl (by omega)
      rw [Nat.add_zero] at c0
      have HQE := Lib.hid hqe
      have HNOD := Lib.hid hnod
      have HROW := Lib.hid hrow
      have HCELL := Lib.hid hcell
      have HCHW := Lib.hid hchw
      have hseen : ∀ W, Chg (fun b => w.heap.size ≤ b) w W → NodAt D W rs[k] m.nodes[k] := fun W hc => (HNS.out k hrk hnk).chg hc (fun b hb x => by omega) (fun _ _ x => x)
      rw [← heq, hqe] at hseen
      have HSEEN := Lib.hid hseen
      have hms := HM.out.each m.nodes[k] (List.getElem_mem hnk)
      have hget : m.nodes[k]? = some m.nodes[k] := List.getElem?_eq_getElem hnk
      generalize m.nodes[k] = nd at *
      have HGET := Lib.hid hget
      have HQL := Lib.hid (show k + 1 ≤ qs.length from hql)
      have HMS := Lib.hid hms
      have hal := Chg.alloc (fun _ => False) wr (.cells #[.int .i64 nki, .int .i64 nin, .string nst, .slice pk nd.keys.length ck, .slice pd nd.kids.length cd] 85)
      have hb5 := alloc_block wr (.cells #[.int .i64 nki, .int .i64 nin, .string nst, .slice pk nd.keys.length ck, .slice pd nd.kids.length cd] 85)
      clear hget hseen hcell hnod hq hqe hrow hchw heq hvk hvd hnki hnin hnst hms hrk
      go_upto_region 5 with fail
      have HAL := Lib.hid hal
      have HB5 := Lib.hid hb5
      clear c0 c1 c2 c3' c4 hal hb5
      generalize wr.alloc (.cells #[.int .i64 nki, .int .i64 nin, .string nst, .slice pk nd.keys.length ck, .slice pd nd.kids.length cd] 85) = w5 at *
      generalize hb5e : wr.heap.size = b5 at *
      have HE5 := Lib.hid hb5e
      clear hb5e
      have m3 := cell_of_block (i := 3) HB5.out rfl
      simp only [List.getElem_toArray, List.getElem_cons_zero, List.getElem_cons_succ] at m3
      have HS := Lib.hid (cloneS w5 _ _ _ (HNOD.out.keys.still HAL.out) (strC_ones _) HMS.out.1)
      have HG : Hid (g < w4.heap.size ∧ w3.heap.size ≤ g) := Lib.hid ⟨HLT4.out g rfl, HLO3.out g rfl⟩
      go_upto_region 6 with (go_at_call 50; refine HS.out.mono ?_; rintro e w6 ⟨vk', rfl, hrow6, hlo6, hch6⟩; obtain ⟨ak, ck', rfl, -, -⟩ := hrow6.slice; have d3 := (HAL.out.trans' hch6).cell (HCELL.out 3 _ rfl (by omega)); have d4 := (HROW.out.chg (HAL.out.trans' hch6) (fun _ _ x => x)).frozenAt (k * 5 + 3); rw [← Nat.add_assoc] at d4)
      have hr7 := (HROW.out.chg (HAL.out.trans' hch6) (fun _ _ x => x)).store (k * 5 + 3) (by rw [(HROW.out).1]; have := HQL.out; have := HI.out.len; omega) (.slice ak nd.keys.length ck')
      rw [← Nat.add_assoc, flat_set _ 5 NodR.len qs k 3 (by have := HQL.out; omega) (by omega) (.slice ak nd.keys.length ck') ⟨nki, nin, nst, .slice ak nd.keys.length ck', .slice pd nd.kids.length cd⟩ (by rw [HQE.out]; rfl)] at hr7
      have hc67 : Chg (fun b => b = g) w6 (w6.setCell ⟨g, off + k * 5 + 3, none⟩ (.slice ak nd.keys.length ck')) := Chg.setCell w6 ⟨g, off + k * 5 + 3, none⟩ _
      have HR7 := Lib.hid hr7
      have HC67 := Lib.hid hc67
      have HR6 := Lib.hid hrow6
      have HLO6 := Lib.hid hlo6
      have HC56 := Lib.hid hch6
      clear hr7 hc67 hrow6 hlo6 hch6 d3 d4 m3 HS
      generalize w6.setCell ⟨g, off + k * 5 + 3, none⟩ (.slice ak nd.keys.length ck') = w7 at *
      have hg5 : g < b5 := by
        have := HI.out.chg.size
        have := HG.out.1
        have := HE5.out
        omega
      have hb7 := HC67.out.keep (HC56.out.keep HB5.out (fun x => x)) (fun x => by omega)
      have m4 := cell_of_block (i := 4) hb7 rfl
      simp only [List.getElem_toArray, List.getElem_cons_zero, List.getElem_cons_succ] at m4
      have hfr : Chg (fun b => w.heap.size ≤ b) w w7 := ((HCHW.out.trans' HAL.out).trans' HC56.out).trans HC67.out (fun _ _ x => x.elim) (fun b _ x => by
        have := HG.out.2; have := HLT3.out; have := HB1.out; omega)
      have HFR := Lib.hid hfr
      have HS2 := Lib.hid (cloneI w7 _ _ _ ((HSEEN.out w7 hfr).kids) (intC_ones _) HMS.out.2)
      clear hfr hb7 hg5
      go_upto_region 7 with (go_at_call 51; refine HS2.out.mono ?_; rintro e w8 ⟨vd', rfl, hrow8, hlo8, hch8⟩; obtain ⟨ad, cd', rfl, -, -⟩ := hrow8.slice; have d3 := (HR7.out.chg hch8 (fun _ _ x => x)).cellAt (k * 5 + 4) (.slice pd nd.kids.length cd) (by rw [flat_get _ 5 NodR.len _ k 4 (by rw [List.length_set]; have := HQL.out; omega) (by omega)]; rw [List.getElem_set_self]; rfl); have d4 := (HR7.out.chg hch8 (fun _ _ x => x)).frozenAt (k * 5 + 4); rw [← Nat.add_assoc] at d3 d4)
      have hr9 := (HR7.out.chg hch8 (fun _ _ x => x)).store (k * 5 + 4) (by rw [HR7.out.1]; have := HQL.out; have := HI.out.len; omega) (.slice ad nd.kids.length cd')
      rw [← Nat.add_assoc, flat_set _ 5 NodR.len _ k 4 (by rw [List.length_set]; have := HQL.out; omega) (by omega) (.slice ad nd.kids.length cd') ⟨nki, nin, nst, .slice ak nd.keys.length ck', .slice ad nd.kids.length cd'⟩ (by rw [List.getElem_set_self]; rfl), List.set_set] at hr9
      have hc89 : Chg (fun b => b = g) w8 (w8.setCell ⟨g, off + k * 5 + 4, none⟩ (.slice ad nd.kids.length cd')) := Chg.setCell w8 ⟨g, off + k * 5 + 4, none⟩ _
      generalize w8.setCell ⟨g, off + k * 5 + 4, none⟩ (.slice ad nd.kids.length cd') = w9 at *
      have hc79 : Chg (fun b => b = g) w7 w9 := hch8.trans hc89 (fun _ _ x => x.elim) (fun _ _ x => x)
      have hc69 : Chg (fun b => b = g) w6 w9 := HC67.out.trans hc79 (fun _ _ x => x) (fun _ _ x => x)
      have hc09 : Chg (fun b => b = g) wr w9 := (HAL.out.trans' HC56.out).trans hc69 (fun _ _ x => x.elim) (fun _ _ x => x)
      have hI9 : CpI w4 w9 rs.length (k + 1) (.slice (some ⟨g, off, none⟩) rs.length c3) rs (qs.set k ⟨nki, nin, nst, .slice ak nd.keys.length ck', .slice ad nd.kids.length cd'⟩) m.nodes := by
        have hs4 : w4.heap.size ≤ w5.heap.size := Nat.le_trans HI.out.chg.size HAL.out.size
        have hs7 : w4.heap.size ≤ w7.heap.size := Nat.le_trans (Nat.le_trans hs4 HC56.out.size) HC67.out.size
        refine ⟨hr9, by rw [List.length_set]; exact HI.out.len, fun i h h' hi => ?_, fun i hi => ?_, ?_⟩
        · rw [List.length_set] at h
          by_cases e : i = k
          · subst e
            have hnd : m.nodes[i] = nd := by
              have := HGET.out
              rw [List.getElem?_eq_getElem h'] at this
              exact Option.some.inj this
            rw [List.getElem_set_self, hnd]
            refine ⟨HNOD.out.kind, HNOD.out.int, HNOD.out.str, ?_, ?_⟩
            · exact (SeenN.ofRow HR6.out (fun b hb x => by have := HLO6.out b hb; omega)).chg hc69 (fun b _ x => by subst x; exact HG.out.1) (fun _ _ x => x)
            · exact (SeenN.ofRow hrow8 (fun b hb x => by have := hlo8 b hb; omega)).chg hc89 (fun b _ x => by subst x; exact HG.out.1) (fun _ _ x => x)
          · rw [List.getElem_set_ne (Ne.symm e)]
            exact (HI.out.done i h h' (by omega)).chg hc09 (fun b _ x => by subst x; exact HG.out.1) (fun _ _ x => x)
        · rw [List.getElem?_set_ne (by omega)]
          exact HI.out.rest i (by omega)
        · exact HI.out.chg.trans hc09 (fun _ _ x => x) (fun b _ x => by subst x; rfl)
      have HI9 := Lib.hid hI9
      clear hI9 hc09 hc69 hc79 hc89 hr9 hrow8 hlo8 hch8 d3 d4 m4 HS2
      go_wp2_with fail
      go_roundw
      case rel => exact ⟨k + 1, _, HLT.out, rfl, HI9⟩
      case measure => have := HLT.out; simp [intOf, w64]; omega
    · have hk2 : k = rs.length := by omega
      have i1 : ¬ (k : Int) < (rs.length : Int) := by omega
      have HKE := Lib.hid hk2
      have hnb : ∀ b, b ≤ b1 + 1 → ¬ (Value.slice a3 rs.length c3).ownBlock = some b := fun b hb x => by have := HLO3.out b x; have := HLT3.out; omega
      have hkr := HI.out.chg.keep HK4.out (hnb b1 (by omega))
      have hbr := HI.out.chg.keep HB4.out (hnb (b1 + 1) (by omega))
      have k5 := cell_of_block (i := 5) hkr rfl
      simp only [List.getElem_toArray, List.getElem_cons_zero, List.getElem_cons_succ] at k5
      have hchw : Chg (fun _ => False) w wr := HC4.out.trans HI.out.chg (fun _ _ x => x) (fun b hb x => by have := HLO3.out b x; have := HLT3.out; have := HB1.out; omega)
      have HS3 := Lib.hid (cloneI wr _ _ _ (HSP.out.still hchw) (intC_ones _) HM.out.ports)
      have HKR := Lib.hid hkr
      have HBR := Lib.hid hbr
      have HCHW := Lib.hid hchw
      have HNB := Lib.hid hnb
      clear hkr hbr hchw hnb hk2 hlt hk
      go_upto_region 9 with (go_at_call 51; refine HS3.out.mono ?_; rintro e w5 ⟨vp', rfl, hrow5, hlo5, hch5⟩; obtain ⟨ap, cp', rfl, -, -⟩ := hrow5.slice; have hk5 := hch5.keep HKR.out (fun x => x); have e4 := cell_of_block (i := 4) hk5 rfl; have f4 := frozen_of_block (i := 4) hk5; have s5 := setCell_block (i := 4) (.slice a3 rs.length c3) hk5; have e5 := cell_of_block (i := 5) s5 rfl; have f5 := frozen_of_block (i := 5) s5)
      have s6 := setCell_block (i := 5) (.slice ap m.ports.length cp') s5
      have hc56 : Chg (fun b => b = b1) w5 ((w5.setCell ⟨b1, 4, none⟩ (.slice a3 rs.length c3)).setCell ⟨b1, 5, none⟩ (.slice ap m.ports.length cp')) := chg_put4 (Chg.setCell w5 ⟨b1, 4, none⟩ _)
      generalize ((w5.setCell ⟨b1, 4, none⟩ (.slice a3 rs.length c3)).setCell ⟨b1, 5, none⟩ (.slice ap m.ports.length cp')) = w6 at *
      have hb6 := hc56.keep (hch5.keep HBR.out (fun x => x)) (fun x => by omega)
      have n0 : w6.cell? ⟨b1, 0, none⟩ = some (.int .i64 id) := cell_of_block (i := 0) s6 rfl
      have n1 : w6.cell? ⟨b1, 1, none⟩ = some (.int .i64 page) := cell_of_block (i := 1) s6 rfl
      have n2 : w6.cell? ⟨b1, 2, none⟩ = some (.string url) := cell_of_block (i := 2) s6 rfl
      have n3 : w6.cell? ⟨b1, 3, none⟩ = some (.string title) := cell_of_block (i := 3) s6 rfl
      have n4 : w6.cell? ⟨b1, 4, none⟩ = some (.slice a3 rs.length c3) := cell_of_block (i := 4) s6 rfl
      have n5 : w6.cell? ⟨b1, 5, none⟩ = some (.slice ap m.ports.length cp') := cell_of_block (i := 5) s6 rfl
      have n6 : w6.cell? ⟨b1, 6, none⟩ = some (.int .i64 x) := cell_of_block (i := 6) s6 rfl
      have n7 : w6.cell? ⟨b1, 7, none⟩ = some (.int .i64 y) := cell_of_block (i := 7) s6 rfl
      obtain ⟨z0, q0, z1, q1, z2, q2, z3, q3, z4, q4, z5, q5, z6, q6, z7, q7, hbf, hcs⟩ := store8 hb6 (.int .i64 id) (.int .i64 page) (.string url) (.string title) (.slice a3 rs.length c3) (.slice ap m.ports.length cp') (.int .i64 x) (.int .i64 y)
      have HC56 := Lib.hid hc56
      have HLO5 := Lib.hid hlo5
      have HR5 := Lib.hid hrow5
      have HC5 := Lib.hid hch5
      clear hc56 hlo5 hrow5 hch5 hk5 e4 f4 s5 e5 f5 s6 hb6 HS3 k5
      go_wp2_with fail
      generalize ((((((((w6.setCell ⟨b1 + 1, 0, none⟩ (.int .i64 id)).setCell ⟨b1 + 1, 1, none⟩ (.int .i64 page)).setCell ⟨b1 + 1, 2, none⟩ (.string url)).setCell ⟨b1 + 1, 3, none⟩ (.string title)).setCell ⟨b1 + 1, 4, none⟩ (.slice a3 rs.length c3)).setCell ⟨b1 + 1, 5, none⟩ (.slice ap m.ports.length cp')).setCell ⟨b1 + 1, 6, none⟩ (.int .i64 x)).setCell ⟨b1 + 1, 7, none⟩ (.int .i64 y)) = wz at *
      refine bodyPost_ret (results_cell_row rfl _ _ (b1 + 1) _ _ _ _ (by rfl) hbf Tryd.underlying34 rfl (by kernel_rfl)) rfl ?_
      have hfz : Chg (fun b => b = b1 ∨ b = b1 + 1) wr wz := (HC5.out.trans HC56.out (fun _ _ x => x.elim) (fun _ _ x => .inl x)).trans hcs (fun _ _ x => x) (fun _ _ x => .inr x)
      have hfz5 : Chg (fun b => b = b1 ∨ b = b1 + 1) _ wz := HC56.out.trans hcs (fun _ _ x => .inl x) (fun _ _ x => .inr x)
      have hs4 := HI.out.chg.size
      have hsz := HSZ.out
      have hl3 := HLT3.out
      have hbe := HB1.out
      refine ⟨_, _, rfl, HCHW.out.trans hfz (fun _ _ x => x) (fun b hb x => by omega), ⟨⟨qs, by rw [HI.out.len]; exact HLN.out, fun i h h' => ?_, ?_⟩, ?_⟩⟩
      · exact (HI.out.done i h h' (by have := HI.out.len; have := HKE.out; omega)).chg hfz (fun b _ x => by omega) (fun b _ x => by omega)
      · rw [HI.out.len]
        exact SeenN.ofRow (HI.out.row.chg hfz (fun b hb x => HNB.out b (by omega) hb)) (fun b hb x => by have := HLO3.out b hb; omega)
      · exact SeenN.ofRow (HR5.out.chg hfz5 (fun b hb x => by have := HLO5.out b hb; omega)) (fun b hb x => by have := HLO5.out b hb; omega)
end Go.Proofs.YtiecgbmeobpomaaDoor
namespace Go.Proofs.YtiecgbmeobpomaaDoor
open Go.RowKit
set_option linter.unusedVariables false
set_option linter.unusedSimpArgs false

section
variable {P : Program} {Q : Exit → Act → World → Prop}

def backB (l : List Oper) : Bool := (List.range l.length).all fun i =>
  match l[i]? with
  | some o => (o.after.all fun e => !Region.binds .any e || decide (e.on < i)) && (match o.guard with | some (g, _) => decide (g < i) | none => true)
  | none => true
def cutArr (n m : Nat) : Array Bool := Array.replicate n true ++ Array.replicate m false
def splitB (l : List Oper) (n : Nat) : Bool :=
  decide (n < l.length) && Region.sinkB .any l.toArray n && Region.chainB .any l.toArray n && backB l && Region.seqB .any l.toArray (l.length - n) n (cutArr n (l.length - n))
/-- What is left behind the head. -/
def headPost (P : Program) (l : List Oper) (n : Nat) (Q : Exit → Act → World → Prop) : Exit → Act → World → Prop
  | .normal, a, w => wpList P l.toArray Q (l.drop n) a w
  | .exit i, a, w => Q (.exit i) a w
  | .goto i, a, w => Q (.goto i) a w
  | .ret, a, w => Q .ret a w
  | .panic c, a, w => Q (.panic c) a w
  | .outgrown, a, w => Q .outgrown a w

theorem headPost_wp {l : List Oper} {n : Nat} {o : Oper} {a : Act} {w : World} {K K' : Act → World → Prop} (h : ∀ a w, K a w → K' a w) (hh : o.wp P a w K (headPost P l n Q)) : o.wp P a w K' Q := by
  unfold Oper.wp at *
  generalize (execOp a.eval o).run P w = r at *
  cases r with
  | ok x w' =>
    cases x with
    | enter f args => exact Calls.mono hh (fun e w'' he => by cases e <;> first | exact h _ _ he | exact he)
    | row r args => exact Rows.mono hh (fun _ _ he => h _ _ he)
    | _ => first | exact h _ _ hh | exact hh
  | halt x w' => cases x <;> exact hh

theorem head_at {l : List Oper} {n i : Nat} (hi : i < n) : (l.take n).toArray[i]? = l.toArray[i]? := by
  simp [hi]

theorem backB_spec {l : List Oper} (hB : backB l = true) {i : Nat} {o : Oper} (ho : l.toArray[i]? = some o) :
    (∀ e ∈ o.after, Region.binds .any e = true → e.on < i) ∧ (∀ g b, o.guard = some (g, b) → g < i) := by
  have hl : l[i]? = some o := by simpa using ho
  have hlt : i < l.length := (List.getElem?_eq_some_iff.1 hl).1
  have h := List.all_eq_true.1 hB i (List.mem_range.2 hlt)
  simp only [hl, Bool.and_eq_true] at h
  refine ⟨fun e he hb => ?_, fun g b hg => ?_⟩
  · have h1 := Array.all_eq_true_iff_forall_mem.1 h.1 e he
    simpa [hb] using h1
  · have h2 := h.2
    rw [hg] at h2
    simpa using h2

theorem wanted_head {l : List Oper} {n i : Nat} {o : Oper} (hB : backB l = true) (ho : l.toArray[i]? = some o) (hi : i < n) (t : Array Value) :
    Region.wanted o (yielded (l.take n).toArray t) = Region.wanted o (yielded l.toArray t) := by
  unfold Region.wanted
  cases hg : o.guard with
  | none => rfl
  | some x =>
    obtain ⟨g, b⟩ := x
    have h1 := (backB_spec hB ho).2 g b hg
    simp only
    unfold yielded
    rw [head_at (show g < n by omega)]

theorem wpOp_head {l : List Oper} {n i : Nat} {a : Act} {w : World} {K K' : Act → World → Prop} (hB : backB l = true) (hi : i < n) (h : ∀ a w, K a w → K' a w)
    (hh : wpOp P (l.take n).toArray (headPost P l n Q) i K a w) : wpOp P l.toArray Q i K' a w := by
  unfold wpOp at *
  rw [head_at hi] at hh
  cases ho : l.toArray[i]? with
  | none => simp only [ho] at hh ⊢; exact h _ _ hh
  | some o =>
    simp only [ho] at hh ⊢
    rw [wanted_head hB ho hi] at hh
    by_cases hw : Region.wanted o (yielded l.toArray a.tmps) = true
    · rw [if_pos hw] at hh ⊢
      exact hh.imp (headPost_wp h) id
    · rw [if_neg hw] at hh ⊢
      exact h _ _ hh

theorem getD_both' {x : Array Bool} {i : Nat} (h : i < x.size) : x.getD i true = x.getD i false := by simp [h]

theorem some_ready {l : List Oper} {n : Nat} {x : Array Bool} (hB : backB l = true) (hn : n ≤ l.length) (hx : x.size = n) : ∀ i, i < n → x.getD i true = false → ∃ j, j ∈ Region.ready .any (l.take n).toArray x := by
  intro i
  induction i using Nat.strongRecOn with
  | _ i ih =>
    intro hi hu
    have hl : i < l.length := by omega
    have ho : l.toArray[i]? = some l[i] := by simp [hl]
    by_cases hall : ∀ e ∈ l[i].after, Region.binds .any e = true → x.getD e.on false = true
    · exact ⟨i, mem_ready.2 ⟨hu, l[i], by rw [head_at hi]; exact ho, hall⟩⟩
    · simp only [Classical.not_forall] at hall
      obtain ⟨e, he, hb, hne⟩ := hall
      have hlt := (backB_spec hB ho).1 e he hb
      exact ih e.on hlt (by omega) (by rw [getD_both' (by omega)]; simpa using hne)

theorem wpAny_split {l : List Oper} {n : Nat} (hn : n < l.length) (hs : Region.sinkB .any l.toArray n = true) (hc : Region.chainB .any l.toArray n = true) (hB : backB l = true)
    (hq : Region.seqB .any l.toArray (l.length - n) n (cutArr n (l.length - n)) = true) :
    ∀ (f : Nat) (x y : Array Bool) (a : Act) (w : World), x.size = n → HeadInv .any l.toArray n y → (∀ i, i < n → y.getD i true = x.getD i true) → x.toList.count false = f →
      wpAny P .any (l.take n).toArray (headPost P l n Q) f x a w → wpAny P .any l.toArray Q (f + (l.length - n)) y a w := by
  intro f
  induction f with
  | zero =>
    intro x y a w hx hy hxy hf h
    have hall : ∀ i, i < n → x.getD i true = true := by
      intro i hi
      have h0 := List.count_eq_zero.1 hf
      have hlt : i < x.size := by omega
      rcases hb : x.getD i true with _ | _
      · exact absurd (by have : x[i] = false := by simpa [hlt] using hb
                         rw [← this]; simp) h0
      · rfl
    have hyc : y = cutArr n (l.length - n) := by
      have hys : y.size = l.length := by simpa using hy.size
      refine Array.ext (by simp [cutArr, hys]; omega) fun i h1 h2 => ?_
      by_cases hi : i < n
      · have := hxy i hi
        rw [hall i hi] at this
        have e1 : y[i] = true := by simpa [h1] using this
        rw [e1]
        simp [cutArr, Array.getElem_append, hi]
      · have := hy.tail i (by omega) (by simpa [hys] using h1)
        have e1 : y[i] = false := by simpa [h1] using this
        rw [e1]
        simp [cutArr, Array.getElem_append, hi]
    have hd : (l.drop n).length = l.length - n := by simp
    have := wpAny_of_seq (P := P) (md := .any) (ops := l.toArray) (Q' := Q) (l.drop n) n y a w (fun j => by simp [List.getElem?_drop]) (by rw [hd, hyc]; exact hq) h.2
    rw [hd] at this
    rwa [Nat.zero_add]
  | succ f ih =>
    intro x y a w hx hy hxy hf h
    have hpos : false ∈ x.toList := List.count_pos_iff.1 (by omega)
    obtain ⟨i0, hi0, he0⟩ := List.getElem_of_mem hpos
    have hi0x : i0 < x.size := by simpa using hi0
    have hu0 : x.getD i0 true = false := by simpa [hi0x] using he0
    have hys : y.size = l.length := by simpa using hy.size
    rw [show f + 1 + (l.length - n) = (f + (l.length - n)) + 1 by omega]
    have hsame : ∀ i, i < n → y.getD i false = x.getD i false := fun i hi => by
      rw [← getD_both' (by omega), ← getD_both' (by omega)]; exact hxy i hi
    have hmem : ∀ i, i ∈ Region.ready .any l.toArray y → i < n := by
      intro i hi
      rcases Nat.lt_or_ge i n with h1 | h1
      · exact h1
      · exact absurd hi (tail_waits hs hc (by simpa using hn) hy _ i0 rfl (by omega) (by rw [hxy i0 (by omega)]; exact hu0) i h1)
    refine ⟨fun h0 => ?_, fun i hi => ?_⟩
    · obtain ⟨j, hj⟩ := some_ready hB (by omega) hx i0 (by omega) hu0
      obtain ⟨a1, o, a2, a3⟩ := mem_ready.1 hj
      have hjn : j < n := by
        have := (Array.getElem?_eq_some_iff.1 a2).1
        simp at this; omega
      rw [head_at hjn] at a2
      have : j ∈ Region.ready .any l.toArray y := mem_ready.2 ⟨by rw [hxy j hjn]; exact a1, o, a2, fun e he hb => by
        have := (backB_spec hB a2).1 e he hb
        rw [hsame e.on (by omega)]; exact a3 e he hb⟩
      rw [h0] at this
      cases this
    · have hin := hmem i hi
      obtain ⟨a1, o, a2, a3⟩ := mem_ready.1 hi
      have hih : i ∈ Region.ready .any (l.take n).toArray x := mem_ready.2 ⟨by rw [← hxy i hin]; exact a1, o, by rw [head_at hin]; exact a2, fun e he hb => by
        have := (backB_spec hB a2).1 e he hb
        rw [← hsame e.on (by omega)]; exact a3 e he hb⟩
      refine wpOp_head hB hin (fun a' w' hk => ?_) (h.2 i hih)
      have hxi : x.getD i true = false := by rw [← hxy i hin]; exact a1
      have hil : i < x.toList.length := by simpa [hx] using hin
      refine ih _ _ a' w' (by simpa using hx) (hy.set hi hin) (fun j hj => ?_) ?_ hk
      · by_cases hij : i = j
        · subst hij
          simp [hys, show i < l.length by omega, hx, hin]
        · rw [getD_set_ne true hij, getD_set_ne true hij]; exact hxy j hj
      · have hxe : x.toList[i] = false := by
          have : x[i]'(by omega) = false := by simpa [show i < x.size by omega] using hxi
          simpa using this
        rw [Array.toList_setIfInBounds, List.count_set hil, hxe, hf]
        simp

/-- **The cut.** -/
theorem wp_region_held_split {id : Nat} {a : Act} {w : World} {l : List Oper} (n : Nat) (S : World → Prop) (hm : P.follows .mixedOrders = true) (hB : splitB l n = true) (hS : S w.drew)
    (h : S w.drew → wpAnyH P .any (l.take n).toArray (headPost P l n Q) S n (Array.replicate n false) a w.drew) : (Code.region id l.toArray true).wp P Q a w := by
  simp only [splitB, Bool.and_eq_true, decide_eq_true_eq] at hB
  obtain ⟨⟨⟨⟨hn, hs⟩, hc⟩, hb⟩, hq⟩ := hB
  refine wp_region_any hm ?_
  have inv0 : HeadInv .any l.toArray n (Array.replicate l.toArray.size false) :=
    ⟨by simp, fun j oj _ hl => (by rw [getD_replicate_false] at hl; cases hl), fun t _ ht => getD_in (by simpa using ht) (getD_replicate_false _ _)⟩
  have := wpAny_split hn hs hc hb hq n (Array.replicate n false) (Array.replicate l.toArray.size false) a w.drew (by simp) inv0 (fun i hi => by
    rw [getD_both' (by simp; omega), getD_both' (by simp; omega), getD_replicate_false, getD_replicate_false]) (by simp) (wpAny_of_held _ _ _ _ (h hS))
  have e : n + (l.length - n) = l.toArray.size := by rw [List.size_toArray]; omega
  rw [e] at this
  exact this
end
end Go.Proofs.YtiecgbmeobpomaaDoor
namespace Go.Proofs.YtiecgbmeobpomaaDoor
open Go.RowKit
set_option linter.unusedVariables false
set_option linter.unusedSimpArgs false

structure Ent where
  id : Int
  page : Int
  url : ByteArray
  title : ByteArray
  msg : Msg
  x : Int
  y : Int
/-- An entry as it lies. -/
structure EntR where
  id : Int
  page : Int
  url : ByteArray
  title : ByteArray
  vn : Value
  vp : Value
  x : Int
  y : Int
def EntR.cells (r : EntR) : List Value := [.int .i64 r.id, .int .i64 r.page, .string r.url, .string r.title, r.vn, r.vp, .int .i64 r.x, .int .i64 r.y]
theorem EntR.len (r : EntR) : r.cells.length = 8 := rfl
structure EntAt (D : Nat → Prop) (w : World) (r : EntR) (e : Ent) : Prop where
  id : r.id = e.id
  page : r.page = e.page
  url : r.url = e.url
  title : r.title = e.title
  msg : MsgAt D w r.vn r.vp e.msg
  x : r.x = e.x
  y : r.y = e.y
theorem EntAt.chg {D D' S : Nat → Prop} {w w' : World} {r : EntR} {e : Ent} (h : EntAt D w r e) (hc : Chg S w w') (hS : ∀ k, k < w.heap.size → S k → D k) (hD : ∀ k, k < w.heap.size → D' k → D k) : EntAt D' w' r e :=
  ⟨h.id, h.page, h.url, h.title, h.msg.chg hc hS hD, h.x, h.y⟩
theorem MsgAt.vals {D : Nat → Prop} {w : World} {vn vp : Value} {m : Msg} (h : MsgAt D w vn vp m) : (∃ p n c, vn = .slice p n c) ∧ (∃ p n c, vp = .slice p n c) := by
  obtain ⟨⟨rs, -, -, h3⟩, h4⟩ := h
  obtain ⟨p, c, rfl, -, -⟩ := h3.val
  obtain ⟨q, d, rfl, -, -⟩ := h4.val
  exact ⟨⟨_, _, _, rfl⟩, _, _, _, rfl⟩
structure Hist where
  list : List Ent
  at_ : Nat
  next : Int
  nextPage : Int
  sleeping : List Int
/-- The blocks that a history's functions change. -/
def Mut (b : Nat) (vl vs : Value) (k : Nat) : Prop := k = b ∨ vl.ownBlock = some k ∨ vs.ownBlock = some k
/-- The world before, and blocks that the history does not lie in. -/
structure Past extends World where
  X : Nat → Prop
instance : Coe Past World := ⟨Past.toWorld⟩
/-- What the history's messages do not lie in. -/
def Off (w0 : Past) (b : Nat) (vl vs : Value) (k : Nat) : Prop := Mut b vl vs k ∨ w0.X k
/-- A history, made behind w0. -/
structure HiAt (w0 : Past) (w : World) (b : Nat) (h : Hist) (vl vs : Value) (rs : List EntR) : Prop where
  box : w.heap[b]? = some (.cells #[vl, .int .i64 (h.at_ : Int), .int .i64 h.next, .int .i64 h.nextPage, vs] 28 (0, 0))
  row : RowAt w 34 8 vl rs.length (rs.flatMap EntR.cells)
  slp : RowAt w 3 1 vs h.sleeping.length (intC h.sleeping)
  len : rs.length = h.list.length
  each : ∀ i (a : i < rs.length) (c : i < h.list.length), EntAt (Off w0 b vl vs) w rs[i] h.list[i]
  lb : ¬ vl.ownBlock = some b
  sb : ¬ vs.ownBlock = some b
  ls : ∀ k, vl.ownBlock = some k → ¬ vs.ownBlock = some k
  lo : ∀ k, Mut b vl vs k → w0.heap.size ≤ k
  chg : Chg (fun _ => False) w0 w
  ok : h.at_ < h.list.length
  few : h.list.length ≤ 100 ∧ h.sleeping.length ≤ 1000
  msgs : ∀ e ∈ h.list, MsgOk e.msg
  xl : ∀ k, w0.X k → k < w.heap.size
  xm : ∀ k, Mut b vl vs k → ¬ w0.X k
theorem HiAt.still {w0 : Past} {w w' : World} {b : Nat} {h : Hist} {vl vs : Value} {rs : List EntR} (H : HiAt w0 w b h vl vs rs) (hc : Chg (fun _ => False) w w') : HiAt w0 w' b h vl vs rs :=
  ⟨hc.keep H.box (fun x => x), H.row.chg hc (fun _ _ x => x), H.slp.chg hc (fun _ _ x => x), H.len, fun i a c => (H.each i a c).chg hc (fun _ _ x => x.elim) (fun _ _ x => x), H.lb, H.sb, H.ls, H.lo, H.chg.trans' hc, H.ok, H.few, H.msgs, fun k hk => Nat.lt_of_lt_of_le (H.xl k hk) hc.size, H.xm⟩
theorem HiAt.mutLt {w0 : Past} {w : World} {b : Nat} {h : Hist} {vl vs : Value} {rs : List EntR} (H : HiAt w0 w b h vl vs rs) (k : Nat) (hk : Mut b vl vs k) : k < w.heap.size := by
  rcases hk with x | x | x
  · subst x; exact lt_of_block H.box
  · exact H.row.lt k x
  · exact H.slp.lt k x
/-- Blocks of X were changed; X is another one. -/
theorem HiAt.grow {w0 : Past} {w w1 : World} {b : Nat} {h : Hist} {vl vs : Value} {rs : List EntR} (H : HiAt w0 w b h vl vs rs) {S : Nat → Prop} (hc : Chg S w w1) (hS : ∀ k, k < w.heap.size → S k → w0.X k) (hS0 : ∀ k, S k → w0.heap.size ≤ k) (X : Nat → Prop) (hX : ∀ k, X k → (w0.X k ∨ w.heap.size ≤ k) ∧ k < w1.heap.size) :
    HiAt ⟨w0, X⟩ w1 b h vl vs rs := by
  have hM : ∀ k, Mut b vl vs k → ¬ S k := fun k hk x => H.xm k hk (hS k (H.mutLt k hk) x)
  refine ⟨hc.keep H.box (hM b (.inl rfl)), H.row.chg hc (fun k hk => hM k (.inr (.inl hk))), H.slp.chg hc (fun k hk => hM k (.inr (.inr hk))), H.len, fun i a c => (H.each i a c).chg hc (fun k hk x => .inr (hS k hk x)) (fun k hk x => x.elim .inl (fun y => .inr ((hX k y).1.elim id (fun z => by omega)))), H.lb, H.sb, H.ls, H.lo, H.chg.trans hc (fun _ _ x => x) (fun k hk x => by
    have : w0.heap.size ≤ k := hS0 k x
    omega), H.ok, H.few, H.msgs, fun k hk => (hX k hk).2, fun k hk x => (hX k x).1.elim (H.xm k hk) (fun y => by have := H.mutLt k hk; omega)⟩
end Go.Proofs.YtiecgbmeobpomaaDoor
namespace Go.Proofs.YtiecgbmeobpomaaDoor
open Go.RowKit
set_option linter.unusedVariables false
set_option linter.unusedSimpArgs false

theorem add_none4 (g off j q : Nat) : (⟨g, off + j, none⟩ : Addr).add q = ⟨g, off + (j + q), none⟩ := by
  rw [← Nat.add_assoc]; unfold Addr.add; split <;> simp_all
/-- The zero of an element's type, its cells. -/
def ElemZ (P : Program) (e : TypeId) (size bytes : Nat) (cs : List Value) : Prop := ∃ i z, P.info? e = some i ∧ i.zero = some z ∧ i.size = size ∧ i.bytes = bytes ∧ z.cells.size = size ∧ z.cells.toList = cs
theorem elemZ_of {P : Program} {e : TypeId} {size bytes : Nat} {cs : List Value} (h : (P.info? e).map (fun i => (i.zero.map (fun z => z.cells.toList), i.size, i.bytes)) = some (some cs, size, bytes)) (hc : cs.length = size) : ElemZ P e size bytes cs := by
  unfold ElemZ
  match hm : P.info? e, h with
  | some i, h =>
    simp only [Option.map_some, Option.some.injEq, Prod.mk.injEq] at h
    obtain ⟨h1, h2, h3⟩ := h
    match hz : i.zero, h1 with
    | some z, h1 =>
      have h4 : z.cells.toList = cs := by simpa using h1
      exact ⟨i, z, rfl, hz, h2, h3, by rw [← Array.length_toList, h4]; exact hc, h4⟩
theorem elemZ_ent : ElemZ Tryd.prog 34 8 112 [.int .i64 0, .int .i64 0, .string ⟨#[]⟩, .string ⟨#[]⟩, .slice none 0 0, .slice none 0 0, .int .i64 0, .int .i64 0] := elemZ_of (by kernel_rfl) rfl
theorem elemZ_int : ElemZ Tryd.prog 3 1 8 [.int .i64 0] := elemZ_of (by kernel_rfl) rfl
/-- What lies there when the rest has been moved and cleared. -/
theorem del_row {w5 : World} {g off i j m cap e size : Nat} {cur : Array Value} {xs zs : List Value} (hb5 : w5.heap[g]? = some (.cells (putAt cur (off + i * size) (xs.drop (j * size))) e (0, 0))) (hx : (cur.toList.drop off).take ((j + m) * size) = xs) (hxl : xs.length = (j + m) * size)
    (hnl : (xs.drop (j * size)).length = m * size) (hij : i < j) (hc : j + m ≤ cap) (hcm : cap ≤ maxLen) (hsz : off + cap * size ≤ cur.size) (hzl : off + (i + m) * size + zs.length ≤ cur.size) :
    RowAt (w5.setCells g (off + (i + m) * size) zs) e size (.slice (some ⟨g, off, none⟩) (i + m) cap) (i + m) (xs.take (i * size) ++ xs.drop (j * size)) := by
  have hi1 : i * size ≤ (j + m) * size := Nat.mul_le_mul_right _ (by omega)
  have hadd : (i + m) * size = i * size + m * size := Nat.add_mul ..
  have hle : (i + m) * size ≤ cap * size := Nat.mul_le_mul_right _ (by omega)
  have hli : (xs.take (i * size)).length = i * size := by rw [List.length_take]; omega
  refine ⟨by rw [List.length_append, hli, hnl, hadd], .inr ⟨g, off, cap, _, rfl, setCells_block zs _ hb5, by omega, hcm, by rw [putAt_size, putAt_size]; exact hsz, ?_⟩⟩
  have hs1 : (putAt cur (off + i * size) (xs.drop (j * size))).size = cur.size := putAt_size ..
  rw [putAt_toList _ _ _ (by rw [hs1]; exact hzl), putAt_toList _ _ _ (by rw [hnl]; omega)]
  have e1 : (cur.toList.take (off + i * size)).drop off = xs.take (i * size) := by
    rw [← hx, List.take_take, Nat.min_eq_left hi1, List.drop_take]
    congr 1; omega
  have hcl : cur.toList.length = cur.size := Array.length_toList
  have hA : (cur.toList.take (off + i * size) ++ xs.drop (j * size)).length = off + (i + m) * size := by
    rw [List.length_append, hnl, List.length_take, hcl, hadd]; omega
  have e2 : (cur.toList.take (off + i * size) ++ xs.drop (j * size) ++ cur.toList.drop (off + i * size + (xs.drop (j * size)).length)).take (off + (i + m) * size) = cur.toList.take (off + i * size) ++ xs.drop (j * size) := by
    rw [← hA]; exact List.take_left
  rw [e2, List.append_assoc, List.append_assoc, List.drop_append_of_le_length (by rw [List.length_take, hcl]; omega), e1]
  rw [← List.append_assoc]
  have hB : (xs.take (i * size) ++ xs.drop (j * size)).length = (i + m) * size := by rw [List.length_append, hli, hnl, hadd]
  rw [← hB]; exact List.take_left
/-- clear of a part of a row. -/
theorem run_clear_row {P : Program} (w : World) (t e ty : TypeId) (i : TypeInfo) (z : Value) (size : Nat) (cur : Array Value) (ht : P.underlying t = some (.slice e)) (hi : P.info? e = some i) (hz : i.zero = some z) (hsz : i.size = size) (hzs : z.cells.size = size) (h1 : ∀ u ∈ z.cells.toList, u.oneCell' = true)
    (g o n c : Nat) (hg : w.heap[g]? = some (.cells cur e (0, 0))) (hs : o + n * size ≤ cur.size) (hn : 0 < n) :
    (Builtin.clear_ #[t] ty #[.slice (some ⟨g, o, none⟩) n c]).run P w = .ok (.tuple #[]) (w.setCells g o (Builtin.zeroCells z.cells n).toList) := by
  have hzl : (Builtin.zeroCells z.cells n).toList.length = n * size := by rw [Array.length_toList, size_zeroCells, hzs]
  have hone : ∀ u ∈ (Builtin.zeroCells z.cells n).toList, u.oneCell' = true := by
    intro u hu
    unfold Builtin.zeroCells at hu
    rw [Array.toList_map, List.mem_map] at hu
    obtain ⟨j, hj, rfl⟩ := hu
    have hjr : j < n * z.cells.size := by simpa using hj
    have hpos : 0 < z.cells.size := by
      apply Nat.pos_of_ne_zero
      intro e0
      rw [e0] at hjr
      omega
    have hj2 : j % z.cells.size < z.cells.size := Nat.mod_lt _ hpos
    rw [getElem!_pos z.cells (j % z.cells.size) hj2]
    exact h1 _ (Array.getElem_mem_toList hj2)
  have hst := run_storeCells_cells (P := P) g o (Builtin.zeroCells z.cells n).toList 0 w (fun j hj => by rw [Nat.add_zero, cell_of_block hg (Array.getElem?_eq_getElem (by omega))]; rfl) (fun j _ => frozen_of_block hg) hone
  simp only [Nat.add_zero] at hst
  have hn0 : n ≠ 0 := by omega
  obtain ⟨n', rfl⟩ : ∃ n', n = n' + 1 := ⟨n - 1, by omega⟩
  simp [Builtin.clear_, run_underlying ht, zeroValue, typeInfo, hi, hz, hst]

set_option maxHeartbeats 6400000 in
set_option maxRecDepth 100000 in
theorem delE_any (w : World) (v : Value) (n i j : Nat) (xs : List Value) (hr : RowAt w 34 8 v n xs) (h1c : ∀ u ∈ xs, u.oneCell' = true) (hij : i ≤ j) (hj : j ≤ n) (hl : n ≤ 1000000) :
    Calls Tryd.prog 53 #[v, .int .i64 (i : Int), .int .i64 (j : Int)] w fun e w' => ∃ v', e = .returned v' ∧ RowAt w' 34 8 v' (n - (j - i)) (xs.take (i * 8) ++ xs.drop (j * 8)) ∧ Chg (fun k => v.ownBlock = some k) w w' ∧ (∀ k, v'.ownBlock = some k → v.ownBlock = some k) := by
  obtain ⟨m, hm⟩ : ∃ m, n = j + m := ⟨n - j, by omega⟩
  subst hm
  have i0' : (0 : Int) ≤ (i : Int) := by omega
  have j0' : (0 : Int) ≤ (j : Int) := by omega
  have ij' : (i : Int) ≤ (j : Int) := by omega
  have jn' : (j : Int) ≤ ((j + m : Nat) : Int) := by omega
  obtain ⟨a, cap, rfl, hnc, hcm⟩ := hr.slice
  by_cases he : i = j
  · subst he
    have HR := Lib.hid hr
    clear hr hij hj hl h1c
    have fin : ∀ W, W = w → RowAt W 34 8 (.slice a (i + m) cap) (i + m - (i - i)) (xs.take (i * 8) ++ xs.drop (i * 8)) := fun W e => by
      rw [e, Nat.sub_self, Nat.sub_zero, List.take_append_drop]; exact HR.out
    have FIN := Lib.hid fin
    clear fin
    rcases Nat.eq_zero_or_pos m with rfl | hmp
    · go_enter Tryd.func53, Tryd.ntmps53
      go_wp2_with fail
      go_ret
      exact ⟨_, rfl, by first | exact FIN.out _ rfl | simpa using FIN.out w rfl, Chg.refl _ _, fun k h => h⟩
    · have ne1 : ¬ i + m = i := by omega
      have ne2 : ¬ m = 0 := by omega
      go_enter Tryd.func53, Tryd.ntmps53
      go_wp2_with fail
      go_ret
      exact ⟨_, rfl, by first | exact FIN.out _ rfl | simpa using FIN.out w rfl, Chg.refl _ _, fun k h => h⟩
  · obtain ⟨g, off, cap', hv, hblk⟩ := hr.addr (by omega)
    cases hv
    obtain ⟨i0, z, hi, hz, hsz, hby, hzs, hzl⟩ := elemZ_ent
    have HZO := Lib.hid (show ∀ u ∈ z.cells.toList, u.oneCell' = true from fun u hu => by rw [hzl] at hu; simp only [List.mem_cons, List.not_mem_nil, or_false] at hu; rcases hu with rfl | rfl | rfl | rfl | rfl | rfl | rfl | rfl <;> rfl)
    have hxl := hr.1
    obtain ⟨g', off', cap'', cur, hv, hg, h1, h2, h3, h4⟩ : ∃ g' off' cap'' cur, Value.slice (some ⟨g, off, none⟩) (j + m) cap = .slice (some ⟨g', off', none⟩) (j + m) cap'' ∧ w.heap[g']? = some (.cells cur 34 (0, 0)) ∧ j + m ≤ cap'' ∧ cap'' ≤ maxLen ∧ off' + cap'' * 8 ≤ cur.size ∧ (cur.toList.drop off').take ((j + m) * 8) = xs := by
      rcases hr.2 with ⟨hv, -⟩ | h
      · cases hv
      · exact h
    cases hv
    have HG := Lib.hid hg
    have HB := Lib.hid (show j + m ≤ cap ∧ i < j ∧ j + m ≤ 1000000 from ⟨h1, by omega, hl⟩)
    have HBC := Lib.hid h3
    have HXS := Lib.hid h4
    have HI := Lib.hid hi
    have HZ := Lib.hid hz
    have HSZ := Lib.hid hsz
    have HZS := Lib.hid hzs
    have HR := Lib.hid hr
    have HXL := Lib.hid hxl
    have HCM := Lib.hid hcm
    have H1 := Lib.hid h1c
    have ne1 : ¬ j + m = i := by omega
    have ne2 : ¬ cap = 0 := by omega
    have ne3 : ¬ cap = i + m := by omega
    have ne4 : (i : Int) ≠ (j : Int) := by omega
    have ne5 : ((i : Int) == (j : Int)) = false := beq_false_of_ne ne4
    have c1 : (i : Int) ≤ (cap : Int) := by omega
    have c3 : (j : Int) ≤ (j : Int) + (m : Int) := by omega
    have c2 : ((j + m : Nat) : Int) ≤ (cap : Int) := by omega
    clear hg h1 h2 h3 h4 h1c hi hz hsz hzs hby hzl hr hxl hij hj hl hnc hcm hblk
    have HNL : Hid ((xs.drop (j * 8)).length = m * 8) := Lib.hid (by rw [List.length_drop, HXL.out]; omega)
    have HNO : Hid (∀ u ∈ xs.drop (j * 8), u.oneCell' = true) := Lib.hid (fun u hu => H1.out u (List.mem_of_mem_drop hu))
    have HSP : Hid (∀ W, Chg (fun _ => False) w W → ∀ q, q < (xs.drop (j * 8)).length → (W.cell? ⟨g, off + i * 8 + q, none⟩).isSome = true ∧ W.frozen? ⟨g, off + i * 8 + q, none⟩ = false) := Lib.hid (fun W hc q hq => by
      have hb := hc.keep HG.out (fun x => x)
      rw [HNL.out] at hq
      exact ⟨by rw [cell_of_block hb (Array.getElem?_eq_getElem (by have := HB.out; have := HBC.out; omega))]; rfl, frozen_of_block hb⟩)
    have HFIN : Hid (∀ (w5 : World), w5.heap[g]? = some (.cells (putAt cur (off + i * 8) (xs.drop (j * 8))) 34 (0, 0)) → RowAt (w5.setCells g (off + (i + m) * 8) (Builtin.zeroCells z.cells (j - i)).toList) 34 8 (.slice (some ⟨g, off, none⟩) (i + m) cap) (i + m) (xs.take (i * 8) ++ xs.drop (j * 8))) := Lib.hid (fun w5 hb5 =>
      del_row hb5 HXS.out HXL.out HNL.out (by have := HB.out; omega) (by have := HB.out; omega) HCM.out HBC.out (by rw [Array.length_toList, size_zeroCells, HZS.out]; have := HB.out; have := HBC.out; omega))
    by_cases hcj : j = cap
    · subst hcj
      have hm0 : m = 0 := by have := HB.out; omega
      subst hm0
      simp only [Nat.add_zero, Nat.zero_mul] at HXS HXL ne1 HNL HB HR ne3 c2 HFIN jn'
      go_enter Tryd.func53, Tryd.ntmps53
      go_upto_region 5 with fail

      refine wp_region_held_split 7 (fun _ => True) (by kernel_rfl) (by kernel_rfl) ?_ (fun hHeld => ?_)
      · trivial
      simp only [List.take_succ_cons, List.take_zero]
      have HWD : Hid (Chg (fun _ => False) w w.drew) := Lib.hid (Chg.refl _ w).drewR
      generalize w.drew = wD at *
      refine wpAnyH_take (i := 0) (v := ?_) rfl (by kernel_rfl) (by kernel_rfl) (by kernel_rfl) (fun _ _ _ h => h) (Or.inl ⟨by rfl, ?_⟩) (by assumption) ?_
      rotate_left
      · (intro wq hSw; (try dsimp only at hSw); go_simp; (try with_reducible rfl))
      simp only [Act.put, List.getElem_toArray, List.getElem_cons_zero, List.getElem_cons_succ, List.setIfInBounds_toArray, List.set_cons_zero, List.set_cons_succ]
      refine wpAnyH_take (i := 1) (v := ?_) rfl (by kernel_rfl) (by kernel_rfl) (by kernel_rfl) (fun _ _ _ h => h) (Or.inl ⟨by rfl, ?_⟩) (by assumption) ?_
      rotate_left
      · (intro wq hSw; (try dsimp only at hSw); go_simp; (try with_reducible rfl))
      simp only [Act.put, List.getElem_toArray, List.getElem_cons_zero, List.getElem_cons_succ, List.setIfInBounds_toArray, List.set_cons_zero, List.set_cons_succ]
      refine wpAnyH_take (i := 2) (v := ?_) rfl (by kernel_rfl) (by kernel_rfl) (by kernel_rfl) (fun _ _ _ h => h) (Or.inl ⟨by rfl, ?_⟩) (by assumption) ?_
      rotate_left
      · (intro wq hSw; (try dsimp only at hSw); go_simp; (try with_reducible rfl))
      simp only [Act.put, List.getElem_toArray, List.getElem_cons_zero, List.getElem_cons_succ, List.setIfInBounds_toArray, List.set_cons_zero, List.set_cons_succ]
      refine wpAnyH_take (i := 3) (v := ?_) rfl (by kernel_rfl) (by kernel_rfl) (by kernel_rfl) (fun _ _ _ h => h) (Or.inl ⟨by rfl, ?_⟩) (by assumption) ?_
      rotate_left
      · (intro wq hSw; (try dsimp only at hSw); go_simp; (try with_reducible rfl))
      simp only [Act.put, List.getElem_toArray, List.getElem_cons_zero, List.getElem_cons_succ, List.setIfInBounds_toArray, List.set_cons_zero, List.set_cons_succ]
      refine wpAnyH_take (i := 4) (v := ?_) rfl (by kernel_rfl) (by kernel_rfl) (by kernel_rfl) (fun _ _ _ h => h) (Or.inl ⟨by rfl, ?_⟩) (by assumption) ?_
      rotate_left
      · (intro wq hSw; (try dsimp only at hSw); go_simp; (try with_reducible rfl))
      simp only [Act.put, List.getElem_toArray, List.getElem_cons_zero, List.getElem_cons_succ, List.setIfInBounds_toArray, List.set_cons_zero, List.set_cons_succ]
      refine wpAnyH_take (i := 5) (v := ?_) rfl (by kernel_rfl) (by kernel_rfl) (by kernel_rfl) (fun _ _ _ h => h) (Or.inl ⟨by rfl, ?_⟩) (by assumption) ?_
      rotate_left
      · (intro wq hSw; (try dsimp only at hSw); go_simp; (try with_reducible rfl))
      simp only [Act.put, List.getElem_toArray, List.getElem_cons_zero, List.getElem_cons_succ, List.setIfInBounds_toArray, List.set_cons_zero, List.set_cons_succ]
      refine wpAnyH_ready (rs := [6]) (by kernel_rfl) (by simp) ?_
      refine AllReadyH.cons (by simp only [List.getElem?_toArray, List.getElem?_cons_succ, List.getElem?_cons_zero]; rfl) (fun K hK => ?_) AllReadyH.nil
      (refine step_append_room (by rfl) _ _ _ (by rfl) 34 i0 8 Tryd.underlying25 HI.out HSZ.out g off i j (by rfl) ⟨g, off, none⟩ 0 0 (xs.drop (j * 8)) (by rfl) HNL.out (fun q u hu => by have h0 := (List.getElem?_eq_some_iff.1 hu).1; rw [HNL.out] at h0; omega) HNO.out (by have := HB.out.1; omega) (HSP.out wD HWD.out) ?_)
      refine hK.out _ _ ?_ (fun hHeld => ?_)
      · trivial
      clear hK K
      (try simp only [Act.put, List.getElem_toArray, List.getElem_cons_zero, List.getElem_cons_succ, List.setIfInBounds_toArray, List.set_cons_zero, List.set_cons_succ])
      refine wpAnyH_done (by kernel_rfl) ?_ _
      change wpList _ _ _ _ _ _
      simp only [List.drop_succ_cons, List.drop_zero]
      have hgd : wD.heap[g]? = some (.cells cur 34 (0, 0)) := HWD.out.keep HG.out (fun x => x)
      have hb5 := setCells_block (b := g) (xs.drop (j * 8)) (off + i * 8) hgd
      have HC5 := Lib.hid (Chg.setCells (b := g) (xs.drop (j * 8)) wD (off + i * 8))
      go_upto_region 6 with fail
      generalize wD.setCells g (off + i * 8) (xs.drop (j * 8)) = w5 at *
      have HB5 := Lib.hid hb5
      have hclr := run_clear_row (P := Tryd.prog) w5 25 34 0 i0 z 8 (putAt cur (off + i * 8) (xs.drop (j * 8))) Tryd.underlying25 HI.out HZ.out HSZ.out HZS.out HZO.out g (off + i * 8) (j - i) (j - i) hb5 (by rw [putAt_size]; have := HB.out; have := HBC.out; omega) (by have := HB.out; omega)
      have HF := Lib.hid (HFIN.out w5 hb5)
      have hc6 := Chg.setCells (b := g) (Builtin.zeroCells z.cells (j - i)).toList w5 (off + i * 8)
      have HC6 := Lib.hid hc6
      have tn1 : ((i : Int) + (0 : Int)).toNat = i := by omega
      have tn2 : ((j : Int) + (0 : Int)).toNat = j := by omega
      have b1 : (0 : Int) ≤ (i : Int) + (0 : Int) := by omega
      have b2 : (i : Int) + (0 : Int) ≤ (j : Int) + (0 : Int) := by omega
      have b3 : (j : Int) + (0 : Int) ≤ (j : Int) := by omega
      have b4 : j - i = j - i := by omega
      clear hc6 hgd hb5 HFIN
      generalize (Builtin.zeroCells z.cells (j - i)).toList = Z at *
      go_wp2_with fail
      go_ret
      refine ⟨_, rfl, ?_, ((HWD.out.trans HC5.out (fun _ _ x => x.elim) (fun _ _ x => x)).trans' HC6.out).mono (fun k _ e => by subst e; rfl), fun k h => h⟩
      rw [show j - (j - i) = i from by have := HB.out; omega]
      exact HF.out
    · have ne6 : ¬ cap = j := fun e => hcj e.symm
      clear hcj
      go_enter Tryd.func53, Tryd.ntmps53
      go_upto_region 5 with fail

      refine wp_region_held_split 7 (fun _ => True) (by kernel_rfl) (by kernel_rfl) ?_ (fun hHeld => ?_)
      · trivial
      simp only [List.take_succ_cons, List.take_zero]
      have HWD : Hid (Chg (fun _ => False) w w.drew) := Lib.hid (Chg.refl _ w).drewR
      generalize w.drew = wD at *
      refine wpAnyH_take (i := 0) (v := ?_) rfl (by kernel_rfl) (by kernel_rfl) (by kernel_rfl) (fun _ _ _ h => h) (Or.inl ⟨by rfl, ?_⟩) (by assumption) ?_
      rotate_left
      · (intro wq hSw; (try dsimp only at hSw); go_simp; (try with_reducible rfl))
      simp only [Act.put, List.getElem_toArray, List.getElem_cons_zero, List.getElem_cons_succ, List.setIfInBounds_toArray, List.set_cons_zero, List.set_cons_succ]
      refine wpAnyH_take (i := 1) (v := ?_) rfl (by kernel_rfl) (by kernel_rfl) (by kernel_rfl) (fun _ _ _ h => h) (Or.inl ⟨by rfl, ?_⟩) (by assumption) ?_
      rotate_left
      · (intro wq hSw; (try dsimp only at hSw); go_simp; (try with_reducible rfl))
      simp only [Act.put, List.getElem_toArray, List.getElem_cons_zero, List.getElem_cons_succ, List.setIfInBounds_toArray, List.set_cons_zero, List.set_cons_succ]
      refine wpAnyH_take (i := 2) (v := ?_) rfl (by kernel_rfl) (by kernel_rfl) (by kernel_rfl) (fun _ _ _ h => h) (Or.inl ⟨by rfl, ?_⟩) (by assumption) ?_
      rotate_left
      · (intro wq hSw; (try dsimp only at hSw); go_simp; (try with_reducible rfl))
      simp only [Act.put, List.getElem_toArray, List.getElem_cons_zero, List.getElem_cons_succ, List.setIfInBounds_toArray, List.set_cons_zero, List.set_cons_succ]
      refine wpAnyH_take (i := 3) (v := ?_) rfl (by kernel_rfl) (by kernel_rfl) (by kernel_rfl) (fun _ _ _ h => h) (Or.inl ⟨by rfl, ?_⟩) (by assumption) ?_
      rotate_left
      · (intro wq hSw; (try dsimp only at hSw); go_simp; (try with_reducible rfl))
      simp only [Act.put, List.getElem_toArray, List.getElem_cons_zero, List.getElem_cons_succ, List.setIfInBounds_toArray, List.set_cons_zero, List.set_cons_succ]
      refine wpAnyH_take (i := 4) (v := ?_) rfl (by kernel_rfl) (by kernel_rfl) (by kernel_rfl) (fun _ _ _ h => h) (Or.inl ⟨by rfl, ?_⟩) (by assumption) ?_
      rotate_left
      · (intro wq hSw; (try dsimp only at hSw); go_simp; (try with_reducible rfl))
      simp only [Act.put, List.getElem_toArray, List.getElem_cons_zero, List.getElem_cons_succ, List.setIfInBounds_toArray, List.set_cons_zero, List.set_cons_succ]
      refine wpAnyH_take (i := 5) (v := ?_) rfl (by kernel_rfl) (by kernel_rfl) (by kernel_rfl) (fun _ _ _ h => h) (Or.inl ⟨by rfl, ?_⟩) (by assumption) ?_
      rotate_left
      · (intro wq hSw; (try dsimp only at hSw); go_simp; (try with_reducible rfl))
      simp only [Act.put, List.getElem_toArray, List.getElem_cons_zero, List.getElem_cons_succ, List.setIfInBounds_toArray, List.set_cons_zero, List.set_cons_succ]
      refine wpAnyH_ready (rs := [6]) (by kernel_rfl) (by simp) ?_
      refine AllReadyH.cons (by simp only [List.getElem?_toArray, List.getElem?_cons_succ, List.getElem?_cons_zero]; rfl) (fun K hK => ?_) AllReadyH.nil
      (refine step_append_room (by rfl) _ _ _ (by rfl) 34 i0 8 Tryd.underlying25 HI.out HSZ.out g off i cap (by rfl) ⟨g, off + j * 8, none⟩ m (cap - j) (xs.drop (j * 8)) (by rfl) HNL.out (fun q u hu => by rw [add_none4]; exact (HR.out.chg HWD.out (fun _ _ x => x)).cellAt (j * 8 + q) u (by rw [List.getElem?_drop] at hu; exact hu)) HNO.out (by have := HB.out.1; omega) (HSP.out wD HWD.out) ?_)
      refine hK.out _ _ ?_ (fun hHeld => ?_)
      · trivial
      clear hK K
      (try simp only [Act.put, List.getElem_toArray, List.getElem_cons_zero, List.getElem_cons_succ, List.setIfInBounds_toArray, List.set_cons_zero, List.set_cons_succ])
      refine wpAnyH_done (by kernel_rfl) ?_ _
      change wpList _ _ _ _ _ _
      simp only [List.drop_succ_cons, List.drop_zero]
      have hgd : wD.heap[g]? = some (.cells cur 34 (0, 0)) := HWD.out.keep HG.out (fun x => x)
      have hb5 := setCells_block (b := g) (xs.drop (j * 8)) (off + i * 8) hgd
      have HC5 := Lib.hid (Chg.setCells (b := g) (xs.drop (j * 8)) wD (off + i * 8))
      go_upto_region 6 with fail
      generalize wD.setCells g (off + i * 8) (xs.drop (j * 8)) = w5 at *
      have HB5 := Lib.hid hb5
      have hclr := run_clear_row (P := Tryd.prog) w5 25 34 0 i0 z 8 (putAt cur (off + i * 8) (xs.drop (j * 8))) Tryd.underlying25 HI.out HZ.out HSZ.out HZS.out HZO.out g (off + (i + m) * 8) (j - i) (cap - (i + m)) hb5 (by rw [putAt_size]; have := HB.out; have := HBC.out; omega) (by have := HB.out; omega)
      have HF := Lib.hid (HFIN.out w5 hb5)
      have hc6 := Chg.setCells (b := g) (Builtin.zeroCells z.cells (j - i)).toList w5 (off + (i + m) * 8)
      have HC6 := Lib.hid hc6
      have tn1 : ((i : Int) + (m : Int)).toNat = i + m := by omega
      have tn2 : ((j : Int) + (m : Int)).toNat = j + m := by omega
      have b1 : (0 : Int) ≤ (i : Int) + (m : Int) := by omega
      have b2 : (i : Int) + (m : Int) ≤ (j : Int) + (m : Int) := by omega
      have b3 : (j : Int) + (m : Int) ≤ (cap : Int) := by omega
      have b4 : j + m - (i + m) = j - i := by omega
      clear hc6 hgd hb5 HFIN
      generalize (Builtin.zeroCells z.cells (j - i)).toList = Z at *
      go_wp2_with fail
      go_ret
      refine ⟨_, rfl, ?_, ((HWD.out.trans HC5.out (fun _ _ x => x.elim) (fun _ _ x => x)).trans' HC6.out).mono (fun k _ e => by subst e; rfl), fun k h => h⟩
      rw [show j + m - (j - i) = i + m from by have := HB.out; omega]
      exact HF.out
end Go.Proofs.YtiecgbmeobpomaaDoor
namespace Go.Proofs.YtiecgbmeobpomaaDoor
open Go.RowKit
set_option linter.unusedVariables false
set_option linter.unusedSimpArgs false

set_option maxHeartbeats 6400000 in
set_option maxRecDepth 100000 in
theorem current_any (w0 : Past) (w : World) (b : Nat) (h : Hist) (vl vs : Value) (rs : List EntR) (H : HiAt w0 w b h vl vs rs) (e : Ent) (he : h.list[h.at_]? = some e) :
    Calls Tryd.prog 19 #[.pointer (some ⟨b, 0, none⟩)] w fun z w' => ∃ vn vp, z = .returned (.agg (EntC e.id e.page e.url e.title vn vp e.x e.y)) ∧ Chg (fun _ => False) w w' ∧ MsgAt (fun k => k < w.heap.size) w' vn vp e.msg := by
  unfold EntC
  have hok := H.ok
  have hal : h.at_ < rs.length := by rw [H.len]; exact hok
  have hee : h.list[h.at_] = e := by rw [List.getElem?_eq_getElem hok] at he; exact Option.some.inj he
  have hea := H.each h.at_ hal hok
  rw [hee] at hea
  have hmo := H.msgs e (hee ▸ List.getElem_mem hok)
  obtain ⟨g, off, cl, rfl, -, -⟩ := H.row.addr (by omega)
  obtain ⟨⟨pn, nn, cn, hvn⟩, pp, np, cp, hvp⟩ := hea.msg.vals
  have hre : rs[h.at_] = ⟨e.id, e.page, e.url, e.title, .slice pn nn cn, .slice pp np cp, e.x, e.y⟩ := by
    rw [← hvn, ← hvp, ← hea.id, ← hea.page, ← hea.url, ← hea.title, ← hea.x, ← hea.y]
  have hmsg := hea.msg
  rw [hvn, hvp] at hmsg
  have hcell : ∀ j u, rs[h.at_].cells[j]? = some u → j < 8 → w.cell? ⟨g, off + h.at_ * 8 + j, none⟩ = some u := fun j u hu hj => by
    rw [Nat.add_assoc]
    exact H.row.cellAt (h.at_ * 8 + j) u (by rw [flat_get _ 8 EntR.len rs h.at_ j hal hj]; exact hu)
  rw [hre] at hcell
  have d0 := cell_of_block (i := 0) H.box rfl
  have d1 := cell_of_block (i := 1) H.box rfl
  simp only [List.getElem_toArray, List.getElem_cons_zero, List.getElem_cons_succ] at d0 d1
  have c0 := hcell 0 _ rfl (by omega)
  rw [Nat.add_zero] at c0
  have hn100 : rs.length ≤ 100 := by rw [H.len]; exact H.few.1
  generalize h.at_ = at_ at *
  have HS := Lib.hid (show w.cell? ⟨b, 0, none⟩ = some (.slice (some ⟨g, off, none⟩) rs.length cl) ∧ w.cell? ⟨b, 1, none⟩ = some (.int .i64 (at_ : Int)) ∧ w.cell? ⟨g, off + at_ * 8, none⟩ = some (.int .i64 e.id) ∧ w.cell? ⟨g, off + at_ * 8 + 1, none⟩ = some (.int .i64 e.page) ∧ w.cell? ⟨g, off + at_ * 8 + 2, none⟩ = some (.string e.url) ∧ w.cell? ⟨g, off + at_ * 8 + 3, none⟩ = some (.string e.title) ∧ w.cell? ⟨g, off + at_ * 8 + 4, none⟩ = some (.slice pn nn cn) ∧ w.cell? ⟨g, off + at_ * 8 + 5, none⟩ = some (.slice pp np cp) ∧ w.cell? ⟨g, off + at_ * 8 + 6, none⟩ = some (.int .i64 e.x) ∧ w.cell? ⟨g, off + at_ * 8 + 7, none⟩ = some (.int .i64 e.y) from ⟨d0, d1, c0, hcell 1 _ rfl (by omega), hcell 2 _ rfl (by omega), hcell 3 _ rfl (by omega), hcell 4 _ rfl (by omega), hcell 5 _ rfl (by omega), hcell 6 _ rfl (by omega), hcell 7 _ rfl (by omega)⟩)
  have a0 : (0 : Int) ≤ (at_ : Int) := by omega
  have a1 : (at_ : Int) < (rs.length : Int) := by omega
  have HCP := Lib.hid (fun W (hc : Chg (fun _ => False) w W) => copied_any W e.id e.page e.x e.y e.url e.title (.slice pn nn cn) (.slice pp np cp) e.msg (hmsg.chg hc (fun _ _ x => x.elim) (fun _ _ x => x)) hmo)
  unfold EntC at HCP
  have hca := Chg.alloc (fun _ => False) w (.cells #[.int .i64 0, .int .i64 0, .string ⟨#[]⟩, .string ⟨#[]⟩, .slice none 0 0, .slice none 0 0, .int .i64 0, .int .i64 0] 34)
  have hb2 := alloc_block w (.cells #[.int .i64 0, .int .i64 0, .string ⟨#[]⟩, .string ⟨#[]⟩, .slice none 0 0, .slice none 0 0, .int .i64 0, .int .i64 0] 34)
  have d0' := hca.cell d0
  have d1' := hca.cell d1
  have HCA := Lib.hid hca
  have HB2 := Lib.hid hb2
  clear hcell c0 d0 d1 hmsg hre hvn hvp hea hmo hee hok hn100 he H hca hb2
  clear hal
  go_enter Tryd.func19, Tryd.ntmps19
  go_upto_region 1 with fail
  generalize w.alloc (.cells #[.int .i64 0, .int .i64 0, .string ⟨#[]⟩, .string ⟨#[]⟩, .slice none 0 0, .slice none 0 0, .int .i64 0, .int .i64 0] 34) = w1 at *
  generalize hb2e : w.heap.size = b2 at HB2 ⊢
  have HE2 := Lib.hid hb2e
  clear hb2e
  go_quiet (fail)
  go_upto_region 3 with fail
  have HC4 := Lib.hid (HCA.out.trans' (Chg.drewN (fun _ => False) w1 nq))
  have HB4 := Lib.hid ((Chg.drewN (fun _ => False) w1 nq).keep HB2.out (fun x => x))
  generalize w1.drewN nq = w4 at *
  have HS0 : Hid (w4.cell? ⟨b, 0, none⟩ = some (.slice (some ⟨g, off, none⟩) rs.length cl) ∧ w4.cell? ⟨b, 1, none⟩ = some (.int .i64 (at_ : Int)) ∧ w4.cell? ⟨g, off + at_ * 8, none⟩ = some (.int .i64 e.id) ∧ w4.cell? ⟨g, off + at_ * 8 + 1, none⟩ = some (.int .i64 e.page) ∧ w4.cell? ⟨g, off + at_ * 8 + 2, none⟩ = some (.string e.url) ∧ w4.cell? ⟨g, off + at_ * 8 + 3, none⟩ = some (.string e.title) ∧ w4.cell? ⟨g, off + at_ * 8 + 4, none⟩ = some (.slice pn nn cn) ∧ w4.cell? ⟨g, off + at_ * 8 + 5, none⟩ = some (.slice pp np cp) ∧ w4.cell? ⟨g, off + at_ * 8 + 6, none⟩ = some (.int .i64 e.x) ∧ w4.cell? ⟨g, off + at_ * 8 + 7, none⟩ = some (.int .i64 e.y)) := Lib.hid ⟨HC4.out.cell HS.out.1, HC4.out.cell HS.out.2.1, HC4.out.cell HS.out.2.2.1, HC4.out.cell HS.out.2.2.2.1, HC4.out.cell HS.out.2.2.2.2.1, HC4.out.cell HS.out.2.2.2.2.2.1, HC4.out.cell HS.out.2.2.2.2.2.2.1, HC4.out.cell HS.out.2.2.2.2.2.2.2.1, HC4.out.cell HS.out.2.2.2.2.2.2.2.2.1, HC4.out.cell HS.out.2.2.2.2.2.2.2.2.2⟩
  clear d0' d1'
  refine wp_region_held_split 11 (fun w' => w'.cell? ⟨b, 0, none⟩ = some (.slice (some ⟨g, off, none⟩) rs.length cl) ∧ w'.cell? ⟨b, 1, none⟩ = some (.int .i64 (at_ : Int)) ∧ w'.cell? ⟨g, off + at_ * 8, none⟩ = some (.int .i64 e.id) ∧ w'.cell? ⟨g, off + at_ * 8 + 1, none⟩ = some (.int .i64 e.page) ∧ w'.cell? ⟨g, off + at_ * 8 + 2, none⟩ = some (.string e.url) ∧ w'.cell? ⟨g, off + at_ * 8 + 3, none⟩ = some (.string e.title) ∧ w'.cell? ⟨g, off + at_ * 8 + 4, none⟩ = some (.slice pn nn cn) ∧ w'.cell? ⟨g, off + at_ * 8 + 5, none⟩ = some (.slice pp np cp) ∧ w'.cell? ⟨g, off + at_ * 8 + 6, none⟩ = some (.int .i64 e.x) ∧ w'.cell? ⟨g, off + at_ * 8 + 7, none⟩ = some (.int .i64 e.y)) (by kernel_rfl) (by kernel_rfl) ?_ (fun hHeld => ?_)
  · (first | exact HS0.out | exact HKS.out _ HCC.out)
  simp only [List.take_succ_cons, List.take_zero]
  have HKS : Hid (∀ W, Chg (fun _ => False) w4.drew W → W.cell? ⟨b, 0, none⟩ = some (.slice (some ⟨g, off, none⟩) rs.length cl) ∧ W.cell? ⟨b, 1, none⟩ = some (.int .i64 (at_ : Int)) ∧ W.cell? ⟨g, off + at_ * 8, none⟩ = some (.int .i64 e.id) ∧ W.cell? ⟨g, off + at_ * 8 + 1, none⟩ = some (.int .i64 e.page) ∧ W.cell? ⟨g, off + at_ * 8 + 2, none⟩ = some (.string e.url) ∧ W.cell? ⟨g, off + at_ * 8 + 3, none⟩ = some (.string e.title) ∧ W.cell? ⟨g, off + at_ * 8 + 4, none⟩ = some (.slice pn nn cn) ∧ W.cell? ⟨g, off + at_ * 8 + 5, none⟩ = some (.slice pp np cp) ∧ W.cell? ⟨g, off + at_ * 8 + 6, none⟩ = some (.int .i64 e.x) ∧ W.cell? ⟨g, off + at_ * 8 + 7, none⟩ = some (.int .i64 e.y)) := Lib.hid (fun W hc => ⟨hc.cell HS0.out.1, hc.cell HS0.out.2.1, hc.cell HS0.out.2.2.1, hc.cell HS0.out.2.2.2.1, hc.cell HS0.out.2.2.2.2.1, hc.cell HS0.out.2.2.2.2.2.1, hc.cell HS0.out.2.2.2.2.2.2.1, hc.cell HS0.out.2.2.2.2.2.2.2.1, hc.cell HS0.out.2.2.2.2.2.2.2.2.1, hc.cell HS0.out.2.2.2.2.2.2.2.2.2⟩)
  have HWD : Hid (Chg (fun _ => False) w4 w4.drew) := Lib.hid (Chg.refl _ w4).drewR
  have HCX := Lib.hid (HC4.out.trans' HWD.out)
  generalize w4.drew = wD at *
  have HCC := Lib.hid (Chg.refl (fun _ => False) wD)
  refine wpAnyH_take (i := 0) (v := ?_) rfl (by kernel_rfl) (by kernel_rfl) (by kernel_rfl) (fun _ _ _ h => h) (Or.inl ⟨by rfl, ?_⟩) (by assumption) ?_
  rotate_left
  · (intro wq hSw; (try dsimp only at hSw); go_simp; (try with_reducible rfl))
  simp only [Act.put, List.getElem_toArray, List.getElem_cons_zero, List.getElem_cons_succ, List.setIfInBounds_toArray, List.set_cons_zero, List.set_cons_succ]
  refine wpAnyH_take (i := 1) (v := ?_) rfl (by kernel_rfl) (by kernel_rfl) (by kernel_rfl) (fun _ _ _ h => h) (Or.inl ⟨by rfl, ?_⟩) (by assumption) ?_
  rotate_left
  · (intro wq hSw; (try dsimp only at hSw); go_simp; (try with_reducible rfl))
  simp only [Act.put, List.getElem_toArray, List.getElem_cons_zero, List.getElem_cons_succ, List.setIfInBounds_toArray, List.set_cons_zero, List.set_cons_succ]
  refine wpAnyH_take (i := 2) (v := ?_) rfl (by kernel_rfl) (by kernel_rfl) (by kernel_rfl) (fun _ _ _ h => h) (Or.inl ⟨by rfl, ?_⟩) (by assumption) ?_
  rotate_left
  · (intro wq hSw; (try dsimp only at hSw); go_simp; (try with_reducible rfl))
  simp only [Act.put, List.getElem_toArray, List.getElem_cons_zero, List.getElem_cons_succ, List.setIfInBounds_toArray, List.set_cons_zero, List.set_cons_succ]
  refine wpAnyH_take (i := 3) (v := ?_) rfl (by kernel_rfl) (by kernel_rfl) (by kernel_rfl) (fun _ _ _ h => h) (Or.inl ⟨by rfl, ?_⟩) (by assumption) ?_
  rotate_left
  · (intro wq hSw; (try dsimp only at hSw); go_simp; (try with_reducible rfl))
  simp only [Act.put, List.getElem_toArray, List.getElem_cons_zero, List.getElem_cons_succ, List.setIfInBounds_toArray, List.set_cons_zero, List.set_cons_succ]
  refine wpAnyH_take (i := 4) (v := ?_) rfl (by kernel_rfl) (by kernel_rfl) (by kernel_rfl) (fun _ _ _ h => h) (Or.inl ⟨by rfl, ?_⟩) (by assumption) ?_
  rotate_left
  · (intro wq hSw; (try dsimp only at hSw); go_simp; (try with_reducible rfl))
  simp only [Act.put, List.getElem_toArray, List.getElem_cons_zero, List.getElem_cons_succ, List.setIfInBounds_toArray, List.set_cons_zero, List.set_cons_succ]
  refine wpAnyH_take (i := 5) (v := ?_) rfl (by kernel_rfl) (by kernel_rfl) (by kernel_rfl) (fun _ _ _ h => h) (Or.inl ⟨by rfl, ?_⟩) (by assumption) ?_
  rotate_left
  · (intro wq hSw; (try dsimp only at hSw); go_simp; (try with_reducible rfl))
  simp only [Act.put, List.getElem_toArray, List.getElem_cons_zero, List.getElem_cons_succ, List.setIfInBounds_toArray, List.set_cons_zero, List.set_cons_succ]
  refine wpAnyH_take (i := 6) (v := ?_) rfl (by kernel_rfl) (by kernel_rfl) (by kernel_rfl) (fun _ _ _ h => h) (Or.inl ⟨by rfl, ?_⟩) (by assumption) ?_
  rotate_left
  · (intro wq hSw; (try dsimp only at hSw); go_simp; (try with_reducible rfl))
  simp only [Act.put, List.getElem_toArray, List.getElem_cons_zero, List.getElem_cons_succ, List.setIfInBounds_toArray, List.set_cons_zero, List.set_cons_succ]
  refine wpAnyH_take (i := 7) (v := ?_) rfl (by kernel_rfl) (by kernel_rfl) (by kernel_rfl) (fun _ _ _ h => h) (Or.inl ⟨by rfl, ?_⟩) (by assumption) ?_
  rotate_left
  · (intro wq hSw; (try dsimp only at hSw); go_simp; (try with_reducible rfl))
  simp only [Act.put, List.getElem_toArray, List.getElem_cons_zero, List.getElem_cons_succ, List.setIfInBounds_toArray, List.set_cons_zero, List.set_cons_succ]
  refine wpAnyH_take (i := 8) (v := ?_) rfl (by kernel_rfl) (by kernel_rfl) (by kernel_rfl) (fun _ _ _ h => h) (Or.inl ⟨by rfl, ?_⟩) (by assumption) ?_
  rotate_left
  · (intro wq hSw; (try dsimp only at hSw); go_simp; (try with_reducible rfl))
  simp only [Act.put, List.getElem_toArray, List.getElem_cons_zero, List.getElem_cons_succ, List.setIfInBounds_toArray, List.set_cons_zero, List.set_cons_succ]
  refine wpAnyH_take (i := 9) (v := ?_) rfl (by kernel_rfl) (by kernel_rfl) (by kernel_rfl) (fun _ _ _ h => h) (Or.inl ⟨by rfl, ?_⟩) (by assumption) ?_
  rotate_left
  · (intro wq hSw; (try dsimp only at hSw); go_simp; (try with_reducible rfl))
  simp only [Act.put, List.getElem_toArray, List.getElem_cons_zero, List.getElem_cons_succ, List.setIfInBounds_toArray, List.set_cons_zero, List.set_cons_succ]
  refine wpAnyH_ready (rs := [10]) (by kernel_rfl) (by simp) ?_
  refine AllReadyH.cons (by simp only [List.getElem?_toArray, List.getElem?_cons_succ, List.getElem?_cons_zero]; rfl) (fun K hK => ?_) AllReadyH.nil
  (go_simp; go_at_call 38; refine (HCP.out _ (HCX.out.trans' HCC.out)).mono ?_; rintro _ wd ⟨vn', vp', rfl, hcd, hma⟩; obtain ⟨⟨qn, mn, dn, rfl⟩, qp, mp, dp, rfl⟩ := hma.vals; have HMA := Lib.hid hma; have HCD := Lib.hid hcd; have HCC := Lib.hid (HCC.out.trans' hcd); clear hcd hma; go_simp)
  refine hK.out _ _ ?_ (fun hHeld => ?_)
  · (first | exact HS0.out | exact HKS.out _ HCC.out)
  clear hK K
  (try simp only [Act.put, List.getElem_toArray, List.getElem_cons_zero, List.getElem_cons_succ, List.setIfInBounds_toArray, List.set_cons_zero, List.set_cons_succ])
  refine wpAnyH_done (by kernel_rfl) ?_ _
  change wpList _ _ _ _ _ _
  simp only [List.drop_succ_cons, List.drop_zero]
  have hb8 := HCC.out.keep (HWD.out.keep HB4.out (fun x => x)) (fun x => x)
  obtain ⟨z0, q0, z1, q1, z2, q2, z3, q3, z4, q4, z5, q5, z6, q6, z7, q7, hbf, hcs⟩ := store8 hb8 (.int .i64 e.id) (.int .i64 e.page) (.string e.url) (.string e.title) (.slice qn mn dn) (.slice qp mp dp) (.int .i64 e.x) (.int .i64 e.y)
  have HCT := Lib.hid (HCX.out.trans' HCC.out)
  have hbw : b2 < wD.heap.size := Nat.lt_of_lt_of_le (Array.getElem?_eq_some_iff.1 HB4.out).1 HWD.out.size
  have HBW := Lib.hid hbw
  clear hbw hb8 HS0 HKS hHeld HCA HB2
  go_wp2_with fail
  generalize ((((((((wd.setCell ⟨b2, 0, none⟩ (.int .i64 e.id)).setCell ⟨b2, 1, none⟩ (.int .i64 e.page)).setCell ⟨b2, 2, none⟩ (.string e.url)).setCell ⟨b2, 3, none⟩ (.string e.title)).setCell ⟨b2, 4, none⟩ (.slice qn mn dn)).setCell ⟨b2, 5, none⟩ (.slice qp mp dp)).setCell ⟨b2, 6, none⟩ (.int .i64 e.x)).setCell ⟨b2, 7, none⟩ (.int .i64 e.y)) = wz at *
  refine bodyPost_ret (results_cell_row rfl _ _ b2 _ _ _ _ (by rfl) hbf Tryd.underlying34 rfl (by kernel_rfl)) rfl ?_
  refine ⟨_, _, rfl, HCT.out.trans hcs (fun _ _ x => x) (fun k hk x => by have := HE2.out; omega), HMA.out.chg hcs (fun k _ x => ?_) (fun k _ x => ?_)⟩
  · show k < wD.heap.size
    rw [show k = b2 from x]
    exact HBW.out
  · show k < wD.heap.size
    have := HCX.out.size
    have : k < w.heap.size := x
    omega
end Go.Proofs.YtiecgbmeobpomaaDoor
namespace Go.Proofs.YtiecgbmeobpomaaDoor
open Go.RowKit
set_option linter.unusedVariables false
set_option linter.unusedSimpArgs false

/-- Where the first entry with a page is, from place k on. -/
def findE (page : Int) : List EntR → Nat → Option Nat
  | [], _ => none
  | s :: l, k => if (s.page == page) = true then some k else findE page l (k + 1)
def idxE : Option Nat → Int
  | none => -1
  | some i => (i : Int)
theorem findE_any (page : Int) : ∀ (l : List EntR) (k : Nat), (findE page l k).isSome = l.any (fun s => s.page == page)
  | [], _ => rfl
  | s :: l, k => by
    rw [findE, List.any_cons]
    by_cases h : (s.page == page) = true
    · rw [if_pos h, h]; rfl
    · rw [if_neg h, findE_any page l (k + 1)]
      simp [h]
theorem idxE_ge (page : Int) (l : List EntR) : decide (0 ≤ idxE (findE page l 0)) = l.any (fun s => s.page == page) := by
  rw [← findE_any page l 0]
  cases h : findE page l 0 with
  | none => rfl
  | some i => show decide ((0 : Int) ≤ (i : Int)) = true; simp
def Vals (r : EntR) : Prop := (∃ p n c, r.vn = .slice p n c) ∧ (∃ p n c, r.vp = .slice p n c)
set_option maxHeartbeats 800000 in
set_option maxRecDepth 100000 in
theorem pageIs_any (s : EntR) (page : Int) (pb : Nat) (w : World) (hv : Vals s) (hp : w.cell? ⟨pb, 0, none⟩ = some (.int .i64 page)) :
    Calls Tryd.prog 57 #[.agg s.cells.toArray, .pointer (some ⟨pb, 0, none⟩)] w fun e w' => e = .returned (.bool (s.page == page)) ∧ Chg (fun _ => False) w w' := by
  have hlt := World.block_lt_of_cell? w _ hp
  obtain ⟨⟨p, n, c, h1⟩, q, m, d, h2⟩ := hv
  unfold EntR.cells
  rw [h1, h2]
  clear h1 h2
  go_enter Tryd.func57, Tryd.ntmps57
  go_wp2_with fail
  go_ret
  exact ⟨rfl, Chg.alloc _ _ _⟩
set_option maxHeartbeats 1600000 in
set_option maxRecDepth 100000 in
theorem indexFuncE_any (l : List EntR) (page : Int) (pb : Nat) (v : Value) (w : World) (hv : ∀ s ∈ l, Vals s) (hp : w.cell? ⟨pb, 0, none⟩ = some (.int .i64 page)) (hr : RowAt w 34 8 v l.length (l.flatMap EntR.cells)) (hl : l.length ≤ 1000) :
    Calls Tryd.prog 71 #[v, .func (.func 57) #[] #[.pointer (some ⟨pb, 0, none⟩)]] w fun e w' => e = .returned (.int .i64 (idxE (findE page l 0))) ∧ Chg (fun _ => False) w w' := by
  obtain ⟨a, cap, rfl, hc1, hc2⟩ := hr.slice
  have HR := Lib.hid hr
  have HV := Lib.hid hv
  have HL := Lib.hid hl
  clear hr hv hl hc1 hc2
  go_enter Tryd.func71, Tryd.ntmps71
  go_wp2_with fail
  go_loopw [5, 8] (fun _ i wr => ∃ k : Nat, k ≤ l.length ∧ i = .int .i64 k ∧ Chg (fun _ => False) w wr ∧ Hid (findE page l 0 = findE page (l.drop k) k)) (fun _ i _ => l.length - (intOf i).toNat)
  case atStart => exact ⟨0, Nat.zero_le _, rfl, Chg.refl _ _, rfl⟩
  case round =>
    obtain ⟨k, hk, rfl, hch, HF⟩ := hrel
    by_cases hlt : k < l.length
    · have hr2 := HR.out.chg hch (fun _ _ x => x)
      obtain ⟨g, off, cap', hv, -, -⟩ := hr2.addr (by omega)
      simp only [Value.slice.injEq] at hv
      obtain ⟨rfl, _, rfl⟩ := hv
      have hvs := HV.out l[k] (List.getElem_mem hlt)
      have hcells : ∀ t u, l[k].cells[t]? = some u → t < 8 → wr.cell? ⟨g, off + k * 8 + t, none⟩ = some u := fun t u hu ht => by
        rw [Nat.add_assoc]
        exact hr2.cellAt (k * 8 + t) u (by rw [flat_get _ 8 EntR.len l k t hlt ht]; exact hu)
      have w64 : IntKind.i64.wrap ((k : Int) + 1) = ((k + 1 : Nat) : Int) := IntWalk.i64_in _ (by have := HL.out; omega)
      have hF := HF.out
      rw [List.drop_eq_getElem_cons hlt, findE] at hF
      have HPI := Lib.hid (fun (W : World) (h : Chg (fun _ => False) w W) => pageIs_any l[k] page pb W hvs (h.cell hp))
      obtain ⟨⟨p1, n1, d1, hq1⟩, p2, n2, d2, hq2⟩ := hvs
      generalize l[k] = s at *
      unfold EntR.cells at HPI hcells
      rw [hq1, hq2] at HPI hcells
      have c0 := hcells 0 _ rfl (by omega)
      rw [Nat.add_zero] at c0
      have c1 := hcells 1 _ rfl (by omega)
      have c2 := hcells 2 _ rfl (by omega)
      have c3 := hcells 3 _ rfl (by omega)
      have c4 := hcells 4 _ rfl (by omega)
      have c5 := hcells 5 _ rfl (by omega)
      have c6 := hcells 6 _ rfl (by omega)
      have c7 := hcells 7 _ rfl (by omega)
      clear hcells hr2 hq1 hq2
      have HF2 := Lib.hid hF
      have HNX : Hid (k + 1 ≤ l.length) := Lib.hid hlt
      clear hF
      go_wp2_with fail
      refine (HPI.out wr hch).mono ?_
      rintro e w2 ⟨rfl, hc2⟩
      have hF := HF2.out
      by_cases hq : (s.page == page) = true
      · rw [if_pos hq] at hF
        rw [hq]
        have HF3 := Lib.hid hF
        clear hF HF HF2 c0 c1 c2 c3 c4 c5 c6 c7
        go_wp2_with fail
        go_ret
        exact ⟨by rw [HF3.out]; rfl, hch.trans' hc2⟩
      · rw [if_neg hq] at hF
        rw [Bool.not_eq_true] at hq
        rw [hq]
        have HF3 := Lib.hid hF
        clear hF HF HF2 c0 c1 c2 c3 c4 c5 c6 c7
        go_wp2_with fail
        go_roundw
        case rel => exact ⟨k + 1, HNX.out, rfl, hch.trans' hc2, HF3⟩
        case measure => have := HNX.out; simp [intOf, w64]; omega
    · have i1 : ¬ (k : Int) < (l.length : Int) := by omega
      have hF := HF.out
      rw [List.drop_of_length_le (by omega), findE] at hF
      have HF2 := Lib.hid hF
      clear hF HF
      go_wp2_with fail
      go_ret
      exact ⟨by rw [HF2.out]; rfl, hch⟩
set_option maxHeartbeats 1600000 in
set_option maxRecDepth 100000 in
theorem shown_any (w0 : Past) (w : World) (b : Nat) (h : Hist) (vl vs : Value) (rs : List EntR) (H : HiAt w0 w b h vl vs rs) (page : Int) :
    Calls Tryd.prog 45 #[.pointer (some ⟨b, 0, none⟩), .int .i64 page] w fun e w' => e = .returned (.bool (h.list.any (fun e => e.page == page))) ∧ Chg (fun _ => False) w w' := by
  have hvals : ∀ s ∈ rs, Vals s := fun s hs => by
    obtain ⟨i, hi, rfl⟩ := List.getElem_of_mem hs
    exact (H.each i hi (by rw [← H.len]; exact hi)).msg.vals
  have hany : rs.any (fun s => s.page == page) = h.list.any (fun e => e.page == page) := by
    have key : ∀ (l : List EntR) (m : List Ent), l.length = m.length → (∀ i (a : i < l.length) (c : i < m.length), l[i].page = m[i].page) → l.any (fun s => s.page == page) = m.any (fun e => e.page == page) := fun l => by
      induction l with
      | nil => intro m hm _; cases m with | nil => rfl | cons => simp at hm
      | cons s l ih =>
        intro m hm he
        cases m with
        | nil => simp at hm
        | cons e m =>
          rw [List.any_cons, List.any_cons, ih m (by simpa using hm) (fun i a c => he (i + 1) (by simp; omega) (by simp; omega))]
          have := he 0 (by simp) (by simp)
          simp only [List.getElem_cons_zero] at this
          rw [this]
    exact key rs h.list H.len (fun i a c => (H.each i a c).page)
  rw [← hany, ← idxE_ge]
  have hca := Chg.alloc (fun _ => False) w (.cells #[.int .i64 page] 3)
  have hp : (w.alloc (.cells #[.int .i64 page] 3)).cell? ⟨w.heap.size, 0, none⟩ = some (.int .i64 page) := cell_of_block (i := 0) (alloc_block w _) rfl
  have HI := Lib.hid (indexFuncE_any rs page w.heap.size vl _ hvals hp (H.row.chg hca (fun _ _ x => x)) (by rw [H.len]; have := H.few.1; omega))
  have d0 := hca.cell (cell_of_block (i := 0) H.box rfl)
  simp only [List.getElem_toArray, List.getElem_cons_zero, List.getElem_cons_succ] at d0
  obtain ⟨a, cap, rfl, -, -⟩ := H.row.slice
  have HC := Lib.hid hca
  clear hp hca H hany hvals
  generalize idxE (findE page rs 0) = ix at *
  go_enter Tryd.func45, Tryd.ntmps45
  go_upto_region 1 with fail
  generalize w.alloc (.cells #[.int .i64 page] 3) = w1 at *
  generalize w.heap.size = pb at *
  have HCF : Hid (Calls Tryd.prog 56 #[.slice a rs.length cap, .func (.func 57) #[] #[.pointer (some ⟨pb, 0, none⟩)]] w1 fun e w' => e = .returned (.bool (decide (0 ≤ ix))) ∧ Chg (fun _ => False) w1 w') := Lib.hid (by
    clear d0 HC
    go_enter Tryd.func56, Tryd.ntmps56
    go_wp2_with (go_at_call 71; refine HI.out.mono ?_; rintro e w2 ⟨rfl, hc2⟩)
    go_ret
    exact ⟨rfl, hc2⟩)
  go_wp2_with (go_at_call 56; refine HCF.out.mono ?_; rintro e w2 ⟨rfl, hc2⟩)
  go_ret
  exact ⟨rfl, HC.out.trans' hc2⟩
end Go.Proofs.YtiecgbmeobpomaaDoor
namespace Go.Proofs.YtiecgbmeobpomaaDoor
open Go.RowKit
set_option linter.unusedVariables false
set_option linter.unusedSimpArgs false

section
variable {w0 : Past} {w w1 w2 : World} {b : Nat} {h : Hist} {vl vl' vs vs' : Value} {rs rs' : List EntR}
/-- One of its numbers is changed. -/
theorem HiAt.nums (H : HiAt w0 w b h vl vs rs) (hc : Chg (fun k => k = b) w w1) (at' : Nat) (next' page' : Int) (hb : w1.heap[b]? = some (.cells #[vl, .int .i64 (at' : Int), .int .i64 next', .int .i64 page', vs] 28 (0, 0))) (ok : at' < h.list.length) :
    HiAt w0 w1 b { h with at_ := at', next := next', nextPage := page' } vl vs rs :=
  ⟨hb, H.row.chg hc (fun k hk e => H.lb (e ▸ hk)), H.slp.chg hc (fun k hk e => H.sb (e ▸ hk)), H.len, fun i a c => (H.each i a c).chg hc (fun k _ e => .inl (.inl e)) (fun _ _ x => x), H.lb, H.sb, H.ls, H.lo,
    H.chg.trans hc (fun _ _ x => x) (fun k hk e => by have := H.lo b (.inl rfl); omega), ok, H.few, H.msgs, fun k hk => Nat.lt_of_lt_of_le (H.xl k hk) hc.size, H.xm⟩
/-- Its list is another one. -/
theorem HiAt.relist (H : HiAt w0 w b h vl vs rs) (l' : List Ent) (hc : Chg (fun k => vl.ownBlock = some k) w w1) (row' : RowAt w1 34 8 vl' rs'.length (rs'.flatMap EntR.cells))
    (hold : ∀ k, vl'.ownBlock = some k → vl.ownBlock = some k ∨ w.heap.size ≤ k) (len' : rs'.length = l'.length) (each' : ∀ i (a : i < rs'.length) (c : i < l'.length), EntAt (Off w0 b vl vs) w rs'[i] l'[i]) (ok' : h.at_ < l'.length) (few' : l'.length ≤ 100) (msgs' : ∀ e ∈ l', MsgOk e.msg) :
    HiAt w0 (w1.setCell ⟨b, 0, none⟩ vl') b { h with list := l' } vl' vs rs' := by
  have hbl : b < w.heap.size := (Array.getElem?_eq_some_iff.1 H.box).1
  have hc2 : Chg (fun k => k = b) w1 (w1.setCell ⟨b, 0, none⟩ vl') := Chg.setCell w1 ⟨b, 0, none⟩ vl'
  have hb1 := hc.keep H.box H.lb
  have hb2 := setCell_block (i := 0) vl' hb1
  have hall : Chg (fun k => vl.ownBlock = some k ∨ k = b) w (w1.setCell ⟨b, 0, none⟩ vl') := hc.trans hc2 (fun _ _ x => .inl x) (fun _ _ x => .inr x)
  have hlb' : ¬ vl'.ownBlock = some b := fun e => by rcases hold b e with x | x; exact H.lb x; omega
  have hsl : ∀ k, vs.ownBlock = some k → k < w.heap.size := H.slp.lt
  refine ⟨by simpa using hb2, row'.chg hc2 (fun k hk e => hlb' (e ▸ hk)), H.slp.chg hall (fun k hk e => e.elim (fun x => H.ls k x hk) (fun x => H.sb (x ▸ hk))), len', fun i a c => (each' i a c).chg hall (fun k hk x => .inl (x.elim (fun y => .inr (.inl y)) .inl)) (fun k hk x => ?_), hlb', H.sb, fun k hk e => ?_, fun k hk => ?_, ?_, ok', ⟨few', H.few.2⟩, msgs', fun k hk => Nat.lt_of_lt_of_le (H.xl k hk) hall.size, fun k hk x => ?_⟩
  · rcases x with (x | x | x) | x
    · exact .inl (.inl x)
    · rcases hold k x with y | y
      · exact .inl (.inr (.inl y))
      · omega
    · exact .inl (.inr (.inr x))
    · exact .inr x
  · rcases hold k hk with y | y
    · exact H.ls k y e
    · have := hsl k e; omega
  · rcases hk with x | x | x
    · exact H.lo k (.inl x)
    · rcases hold k x with y | y
      · exact H.lo k (.inr (.inl y))
      · exact Nat.le_trans H.chg.size y
    · exact H.lo k (.inr (.inr x))
  · exact H.chg.trans hall (fun _ _ x => x) (fun k hk x => by
      have := H.lo k (x.elim (fun y => .inr (.inl y)) .inl)
      omega)
  · rcases hk with y | y | y
    · exact H.xm k (.inl y) x
    · rcases hold k y with z | z
      · exact H.xm k (.inr (.inl z)) x
      · have := H.xl k x; omega
    · exact H.xm k (.inr (.inr y)) x
end
theorem ent_ones {D : Nat → Prop} {w : World} {rs : List EntR} {l : List Ent} (hl : rs.length = l.length) (h : ∀ i (a : i < rs.length) (c : i < l.length), EntAt D w rs[i] l[i]) : Ones (rs.flatMap EntR.cells) := fun u hu => by
  obtain ⟨r, hr, hu⟩ := List.mem_flatMap.1 hu
  obtain ⟨i, hi, rfl⟩ := List.getElem_of_mem hr
  obtain ⟨⟨p, n, c, h1⟩, q, m, d, h2⟩ := (h i hi (by omega)).msg.vals
  unfold EntR.cells at hu
  rw [h1, h2] at hu
  simp only [List.mem_cons, List.not_mem_nil, or_false] at hu
  rcases hu with rfl | rfl | rfl | rfl | rfl | rfl | rfl | rfl <;> rfl
theorem flatE_take : ∀ (l : List EntR) (n : Nat), (l.flatMap EntR.cells).take (n * 8) = (l.take n).flatMap EntR.cells
  | [], n => by simp
  | a :: l, 0 => by simp
  | a :: l, n + 1 => by
    have ih := flatE_take l n
    have hl : a.cells.length = 8 := EntR.len a
    rw [List.flatMap_cons, List.take_succ_cons, List.flatMap_cons, show (n + 1) * 8 = a.cells.length + n * 8 by rw [hl]; omega, List.take_length_add_append, ih]
theorem flatE_drop : ∀ (l : List EntR) (n : Nat), (l.flatMap EntR.cells).drop (n * 8) = (l.drop n).flatMap EntR.cells
  | [], n => by simp
  | a :: l, 0 => by simp
  | a :: l, n + 1 => by
    have ih := flatE_drop l n
    have hl : a.cells.length = 8 := EntR.len a
    rw [List.flatMap_cons, List.drop_succ_cons, show (n + 1) * 8 = a.cells.length + n * 8 by rw [hl]; omega, List.drop_length_add_append, ih]
/-- A history behind an operation: only blocks of M (and new ones) were changed. -/
def OpX (w0 : Past) (w : World) (b : Nat) (M : Nat → Prop) (h : Hist) (w' : World) : Prop := ∃ vl vs rs, HiAt w0 w' b h vl vs rs ∧ Chg M w w' ∧ ∀ k, k < w.heap.size → Mut b vl vs k → M k
section
variable {w0 : Past} {w w1 w2 : World} {b : Nat} {h h1 h2 : Hist} {M : Nat → Prop} {vl vs : Value} {rs : List EntR}
theorem HiAt.opx (H : HiAt w0 w b h vl vs rs) : OpX w0 w b (Mut b vl vs) h w := ⟨vl, vs, rs, H, Chg.refl _ _, fun _ _ x => x⟩
theorem OpX.still (X : OpX w0 w b M h w1) (hc : Chg (fun _ => False) w1 w2) : OpX w0 w b M h w2 := by
  obtain ⟨vl, vs, rs, H, k1, k2⟩ := X
  exact ⟨vl, vs, rs, H.still hc, k1.trans hc (fun _ _ x => x) (fun _ _ x => x.elim), k2⟩
theorem OpX.next (H : HiAt w0 w1 b h1 vl vs rs) (hc : Chg M w w1) (hM : ∀ k, k < w.heap.size → Mut b vl vs k → M k) (X : OpX w0 w1 b (Mut b vl vs) h2 w2) : OpX w0 w b M h2 w2 := by
  obtain ⟨vl2, vs2, rs2, H2, k1, k2⟩ := X
  exact ⟨vl2, vs2, rs2, H2, hc.trans k1 (fun _ _ x => x) hM, fun k hk x => hM k hk (k2 k (Nat.lt_of_lt_of_le hk hc.size) x)⟩
theorem OpX.chg (X : OpX w0 w b M h w1) : Chg M w w1 := by
  obtain ⟨vl, vs, rs, H, k1, k2⟩ := X
  exact k1
/-- The world before it, seen from an older one. -/
theorem OpX.from (X : OpX w0 w1 b M h w2) (hc : Chg (fun _ => False) w w1) : OpX w0 w b M h w2 := by
  obtain ⟨vl, vs, rs, H, k1, k2⟩ := X
  exact ⟨vl, vs, rs, H, hc.trans k1 (fun _ _ x => x.elim) (fun _ _ x => x), fun k hk x => k2 k (Nat.lt_of_lt_of_le hk hc.size) x⟩
end
end Go.Proofs.YtiecgbmeobpomaaDoor
