/-
  Lists of handles that a function makes; value.Ref, value.Of; collect.Values, without.
-/
import Derived.Test.YthiiehanlconeaaDoorAra
import Derived.Test.YthiiehanlconeaaDoorCopy
namespace Go.Proofs.YthiiehanlconeaaDoor
open Go.RowKit
set_option linter.unusedVariables false
set_option linter.unusedSimpArgs false

theorem elem_int : Elem Tryd.prog 3 1 8 := elem_of (by kernel_rfl)
def intC (l : List Int) : List Value := l.map (Value.int .i64)
theorem intC_ones (l : List Int) : Ones (intC l) := fun u hu => by
  obtain ⟨x, -, rfl⟩ := List.mem_map.1 hu
  rfl
theorem intC_len (l : List Int) : (intC l).length = l.length := List.length_map ..
/-- A list of numbers, made behind w0. -/
structure OutI (w0 w : World) (v : Value) (l : List Int) : Prop where
  row : RowAt w 3 1 v l.length (intC l)
  lo : ∀ k, v.ownBlock = some k → w0.heap.size ≤ k
  chg : Chg (fun _ => False) w0 w
section
variable {w0 w w1 w2 : World} {v : Value} {l m : List Int}
theorem OutI.nil (w : World) : OutI w w (.slice none 0 0) [] := ⟨RowAt.nil _ _ _, fun k hk => by simp [Value.ownBlock] at hk, Chg.refl _ _⟩
theorem OutI.still (h : OutI w0 w v l) (hc : Chg (fun _ => False) w w1) : OutI w0 w1 v l := ⟨h.row.chg hc (fun _ _ x => x), h.lo, h.chg.trans' hc⟩
theorem OutI.drew (h : OutI w0 w v l) : OutI w0 w.drew v l := h.still ((Chg.refl _ w).drewR)
theorem OutI.alloc (h : OutI w0 w v l) (o : _root_.Go.Obj) : OutI w0 (w.alloc o) v l := h.still (Chg.alloc _ w o)
theorem OutI.val (h : OutI w0 w v l) : ∃ a cap, v = .slice a l.length cap ∧ l.length ≤ cap ∧ cap ≤ maxLen := h.row.slice
theorem OutI.at (h : OutI w0 w v l) {k : Nat} (hk : k < l.length) : ∃ g off cap, v = .slice (some ⟨g, off, none⟩) l.length cap ∧ w.cell? ⟨g, off + k, none⟩ = some (.int .i64 l[k]) := by
  obtain ⟨g, off, cap, rfl, -, -⟩ := h.row.addr (by omega)
  exact ⟨g, off, cap, rfl, h.row.cellAt k _ (by simp [intC, hk])⟩
/-- Kept by what changes other blocks alone. -/
theorem OutI.other {S : Nat → Prop} (h : OutI w0 w v l) (hc : Chg S w w1) (hn : ∀ k, v.ownBlock = some k → ¬ S k) (hS : ∀ k, k < w0.heap.size → ¬ S k) : OutI w0 w1 v l :=
  ⟨h.row.chg hc hn, h.lo, h.chg.trans hc (fun _ _ x => x) (fun i hi x => hS i hi x)⟩
theorem OutI.lt (h : OutI w0 w v l) : ∀ k, v.ownBlock = some k → k < w.heap.size := h.row.lt
end
theorem RowAt.lit {W : World} {e size n : Nat} (cs : List Value) (h : cs.length = n * size) (hn : n ≤ maxLen) : RowAt (W.alloc (.cells cs.toArray e)) e size (.slice (some ⟨W.heap.size, 0, none⟩) n n) n cs :=
  ⟨h, .inr ⟨W.heap.size, 0, n, _, rfl, alloc_block W _, Nat.le_refl _, hn, by simp [h], by simp [← h]⟩⟩
theorem RowAt.lit2 {W : World} {A : _root_.Go.Obj} {e size n : Nat} (cs : List Value) (h : cs.length = n * size) (hn : n ≤ maxLen) : RowAt ((W.alloc A).alloc (.cells cs.toArray e)) e size (.slice (some ⟨W.heap.size + 1, 0, none⟩) n n) n cs := by
  have := RowAt.lit (W := W.alloc A) (e := e) (size := size) (n := n) cs h hn
  rwa [World.size_alloc] at this
/-- append to such a list. -/
theorem wpList_out {W w0 : World} {ops : Array Oper} {rest : List Oper} {o : Oper} {a : Act} {Q : Exit → Act → World → Prop} (hgd : o.guard = none) (s x : Operand)
    (ho : o.op = .call { callee := .builtin .append, args := #[s, x], argTypes := #[27, 27] })
    (v : Value) (l : List Int) (hsv : a.eval s = v) (H : OutI w0 W v l) (xv : Value) (m : List Int) (hx : a.eval x = xv) (hxr : RowAt W 3 1 xv m.length (intC m)) (hf : Few (l.length + m.length))
    (h : ∀ a1 n1 c1 w', OutI w0 w' (.slice a1 n1 c1) (l ++ m) → Chg (fun k => v.ownBlock = some k) W w' → (∀ k, (Value.slice a1 n1 c1).ownBlock = some k → v.ownBlock = some k ∨ W.heap.size ≤ k) → wpList Tryd.prog ops Q rest (a.put o.dst (.slice a1 n1 c1)) w') :
    wpList Tryd.prog ops Q (o :: rest) a W := by
  refine list_append_rows hgd s x 27 ho 3 1 8 Tryd.underlying27 elem_int (by decide) v l.length (intC l) hsv H.row xv m.length (intC m) hx hxr (intC_ones m) (by have := hf.lt; unfold maxLen; omega) (by have := hf.lt; omega) ?_
  intro a1 n1 c1 w' hrow hchg hold
  refine h a1 n1 c1 w' ⟨?_, fun k hk => ?_, ?_⟩ hchg hold
  · have : intC l ++ intC m = intC (l ++ m) := by simp [intC]
    rw [List.length_append, ← this]; exact hrow
  · rcases hold k hk with x | x
    · exact H.lo k x
    · exact Nat.le_trans H.chg.size x
  · exact H.chg.trans hchg (fun _ _ x => x) (fun i hi x => by have := H.lo i x; omega)

set_option maxHeartbeats 400000 in
set_option maxRecDepth 100000 in
theorem vref_any (h : Int) (w : World) :
    Calls Tryd.prog 9 #[.int .i64 h] w fun e w' => e = .returned (.agg #[.int .i64 5, .int .i64 0, .string ⟨#[]⟩, .int .i64 h]) ∧ Chg (fun _ => False) w w' := by
  go_enter Tryd.func9, Tryd.ntmps9
  go_wp2_with fail
  refine bodyPost_ret (results_cell_row rfl _ _ w.heap.size _ _ _ _ (by rfl) (heap_alloc_new _ _) Tryd.underlying38 rfl (by kernel_rfl)) rfl ?_
  exact ⟨rfl, Chg.alloc _ _ _⟩
set_option maxHeartbeats 400000 in
set_option maxRecDepth 100000 in
theorem vof_any (h : Int) (w : World) :
    Calls Tryd.prog 34 #[.int .i64 h] w fun e w' => e = .returned (.agg #[.int .i64 3, .int .i64 h, .string ⟨#[]⟩, .int .i64 0]) ∧ Chg (fun _ => False) w w' := by
  go_enter Tryd.func34, Tryd.ntmps34
  go_wp2_with fail
  refine bodyPost_ret (results_cell_row rfl _ _ w.heap.size _ _ _ _ (by rfl) (heap_alloc_new _ _) Tryd.underlying38 rfl (by kernel_rfl)) rfl ?_
  exact ⟨rfl, Chg.alloc _ _ _⟩

def refOf (v : Val) : List Int := if v.kind = 5 then [v.ref] else []
def refsV (l : List Val) : List Int := l.flatMap refOf
theorem refsV_len (l : List Val) : (refsV l).length ≤ l.length := by
  unfold refsV
  induction l with
  | nil => simp
  | cons a l ih =>
    rw [List.flatMap_cons, List.length_append, List.length_cons]
    have : (refOf a).length ≤ 1 := by unfold refOf; split <;> simp
    omega
theorem refsV_take {l : List Val} {k : Nat} (h : k < l.length) : refsV (l.take (k + 1)) = refsV (l.take k) ++ refOf l[k] := by
  unfold refsV
  rw [List.take_succ_eq_append_getElem h, List.flatMap_append]
  simp

set_option maxHeartbeats 1600000 in
set_option maxRecDepth 100000 in
theorem values_any (w : World) (v : Value) (l : List Val) (hr : RowAt w 38 4 v l.length (l.flatMap Val.cells)) (hl : Few l.length) :
    Calls Tryd.prog 33 #[v] w fun e w' => ∃ v', e = .returned v' ∧ OutI w w' v' (refsV l) := by
  obtain ⟨ad, cap, rfl, hle, hcap⟩ := hr.slice
  have HR := Lib.hid hr
  have HL := Lib.hid hl
  have hln : (l.length : Int) ≤ 9223372036854775807 := by have := hl.lt; omega
  clear hr hl hle hcap
  go_enter Tryd.func33, Tryd.ntmps33
  go_wp2_with fail
  go_loopw [3, 5, 8] (fun u3 _ u8 wr => ∃ (k : Nat) (a : Option Addr) (n c : Nat), k ≤ l.length ∧ u8 = .int .i64 k ∧ u3 = .slice a n c ∧ OutI w wr (.slice a n c) (refsV (l.take k))) (fun _ _ u8 _ => l.length - (intOf u8).toNat)
  case atStart => exact ⟨0, none, 0, 0, by omega, rfl, rfl, OutI.nil w⟩
  case round =>
    obtain ⟨k, a, n, c, hk, rfl, rfl, HO⟩ := hrel
    by_cases hlt : k < l.length
    · have h0 : (0 : Int) ≤ (k : Int) := by omega
      have h1 : (k : Int) < (l.length : Int) := by omega
      have hr2 := HR.out.chg HO.chg (fun _ _ x => x)
      obtain ⟨g, off, cap', hv, -, -⟩ := hr2.addr (by omega)
      cases hv
      have hcell : ∀ j u, l[k].cells[j]? = some u → j < 4 → wr.cell? ⟨g, off + k * 4 + j, none⟩ = some u := fun j u hu hj => by
        rw [Nat.add_assoc]
        exact hr2.cellAt (k * 4 + j) u (by rw [flat_get _ 4 Val.len l k j hlt hj]; exact hu)
      have c0 := hcell 0 _ rfl (by omega)
      have c1 := hcell 1 _ rfl (by omega)
      have c2 := hcell 2 _ rfl (by omega)
      have c3 := hcell 3 _ rfl (by omega)
      rw [Nat.add_zero] at c0
      have w64 : IntKind.i64.wrap ((k : Int) + 1) = ((k + 1 : Nat) : Int) := IntWalk.i64_in _ (by omega)
      have HT := Lib.hid (refsV_take hlt)
      have HLT := Lib.hid hlt
      have HF := Lib.hid (Nat.le_trans (refsV_len (l.take k)) (List.length_take_le ..))
      have HNX := Lib.hid (show k + 1 ≤ l.length from hlt)
      have HFW : Hid (Few ((refsV (l.take k)).length + 1)) := Lib.hid (⟨by have := HF.out; have := HNX.out; have := HL.out.lt; omega⟩ : Few _)
      clear hcell hr2 hk
      generalize l[k] = z at *
      clear hlt
      cases hz : z.kind == 5
      · have hz' : ¬ z.kind = 5 := by simpa using hz
        rw [show refOf z = [] from if_neg hz', List.append_nil] at HT
        have HO1 := Lib.hid (HO.alloc (.cells #[.int .i64 z.kind, .int .i64 z.int, .string z.str, .int .i64 z.ref] 38))
        clear HO hz'
        go_wp2_with fail
        go_roundw
        case rel => exact ⟨k + 1, a, n, c, HNX.out, rfl, rfl, by rw [HT.out]; exact HO1.out⟩
        case measure => have := HLT.out; simp [intOf, w64]; omega
      · have hz' : z.kind = 5 := by simpa using hz
        rw [show refOf z = [z.ref] from if_pos hz'] at HT
        have HO1 := Lib.hid ((HO.alloc (.cells #[.int .i64 z.kind, .int .i64 z.int, .string z.str, .int .i64 z.ref] 38)).alloc (.cells #[.int .i64 z.ref] 3))
        clear HO hz'
        go_wp2_with (first
          | (at_builtin; refine wpList_out rfl (.tmp 15) (.tmp 18) rfl _ (refsV (l.take k)) rfl HO1.out _ [z.ref] rfl (RowAt.lit2 [.int .i64 z.ref] rfl (by simp [maxLen])) HFW.out ?_; intro a2 n2 c2 w2 HO2 hch2 _))
        go_roundw
        case rel => exact ⟨k + 1, a2, n2, c2, HNX.out, rfl, rfl, by rw [HT.out]; exact HO2⟩
        case measure => have := HLT.out; simp [intOf, w64]; omega
    · have hk2 : k = l.length := by omega
      subst hk2
      rw [List.take_length] at HO
      have HO1 := Lib.hid HO
      clear HO hlt hk
      go_wp2_with fail
      go_ret
      exact ⟨_, rfl, HO1.out⟩
def nz (l : List Int) : List Int := l.filter (fun x => x != 0)
theorem nz_take {l : List Int} {k : Nat} (h : k < l.length) : nz (l.take (k + 1)) = nz (l.take k) ++ nz [l[k]] := by
  unfold nz
  rw [List.take_succ_eq_append_getElem h, List.filter_append]

set_option maxHeartbeats 1600000 in
set_option maxRecDepth 100000 in
theorem without_any (w0 w : World) (v : Value) (l : List Int) (hr : OutI w0 w v l) (hl : Few l.length) :
    Calls Tryd.prog 48 #[v] w fun e w' => ∃ v', e = .returned v' ∧ OutI w w' v' (nz l) := by
  obtain ⟨ad, cap, rfl, hle, hcap⟩ := hr.val
  have HR := Lib.hid hr
  have HL := Lib.hid hl
  have hln : (l.length : Int) ≤ 9223372036854775807 := by have := hl.lt; omega
  clear hr hl hle hcap
  go_enter Tryd.func48, Tryd.ntmps48
  go_wp2_with fail
  go_loopw [3, 5, 8] (fun u3 _ u8 wr => ∃ (k : Nat) (a : Option Addr) (n c : Nat), k ≤ l.length ∧ u8 = .int .i64 k ∧ u3 = .slice a n c ∧ OutI w wr (.slice a n c) (nz (l.take k))) (fun _ _ u8 _ => l.length - (intOf u8).toNat)
  case atStart => exact ⟨0, none, 0, 0, by omega, rfl, rfl, OutI.nil w⟩
  case round =>
    obtain ⟨k, a, n, c, hk, rfl, rfl, HO⟩ := hrel
    by_cases hlt : k < l.length
    · have h0 : (0 : Int) ≤ (k : Int) := by omega
      have h1 : (k : Int) < (l.length : Int) := by omega
      obtain ⟨g, off, cap', hv, c0⟩ := (HR.out.still HO.chg).at hlt
      cases hv
      have w64 : IntKind.i64.wrap ((k : Int) + 1) = ((k + 1 : Nat) : Int) := IntWalk.i64_in _ (by omega)
      have HT := Lib.hid (nz_take hlt)
      have HLT := Lib.hid hlt
      have HF : Hid ((nz (l.take k)).length ≤ k) := Lib.hid (Nat.le_trans (List.length_filter_le ..) (List.length_take_le ..))
      have HNX := Lib.hid (show k + 1 ≤ l.length from hlt)
      have HFW : Hid (Few ((nz (l.take k)).length + 1)) := Lib.hid (⟨by have := HF.out; have := HNX.out; have := HL.out.lt; omega⟩ : Few _)
      clear hk
      generalize l[k] = z at *
      clear hlt
      cases hz : z != 0
      · have hz' : nz [z] = [] := by simp [nz, hz]
        rw [hz', List.append_nil] at HT
        have HO1 := Lib.hid HO
        clear HO hz'
        go_wp2_with fail
        go_roundw
        case rel => exact ⟨k + 1, a, n, c, HNX.out, rfl, rfl, by rw [HT.out]; exact HO1.out⟩
        case measure => have := HLT.out; simp [intOf, w64]; omega
      · have hz' : nz [z] = [z] := by simp [nz, hz]
        rw [hz'] at HT
        have HO1 := Lib.hid (HO.alloc (.cells #[.int .i64 z] 3))
        clear HO hz'
        go_wp2_with (first
          | (at_builtin; refine wpList_out rfl (.tmp 14) (.tmp 16) rfl _ (nz (l.take k)) rfl HO1.out _ [z] rfl (RowAt.lit [.int .i64 z] rfl (by simp [maxLen])) HFW.out ?_; intro a2 n2 c2 w2 HO2 hch2 _))
        go_roundw
        case rel => exact ⟨k + 1, a2, n2, c2, HNX.out, rfl, rfl, by rw [HT.out]; exact HO2⟩
        case measure => have := HLT.out; simp [intOf, w64]; omega
    · have hk2 : k = l.length := by omega
      subst hk2
      rw [List.take_length] at HO
      have HO1 := Lib.hid HO
      clear HO hlt hk
      go_wp2_with fail
      go_ret
      exact ⟨_, rfl, HO1.out⟩
end Go.Proofs.YthiiehanlconeaaDoor
