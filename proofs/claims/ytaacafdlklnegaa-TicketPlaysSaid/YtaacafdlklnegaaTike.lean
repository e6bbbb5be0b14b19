/-
  The network's side of layer 53: Clone, from, Take, Ack.
-/
import Derived.Test.YtaacafdlklnegaaTikd
import Derived.Deep.RegionHeld3
import Derived.Lib.SliceRun
namespace Go.Proofs.Ytaacafdlklnegaa
open Go.RowKit
set_option linter.unusedVariables false

/-- A slice that is only read: its elements (one cell each) are xs. -/
def Seen (w : World) (v : Value) (xs : List Value) : Prop :=
  ∃ p cap, v = .slice p xs.length cap ∧ xs.length ≤ cap ∧ cap ≤ maxLen ∧ (xs ≠ [] → ∃ g off, p = some ⟨g, off, none⟩ ∧ ∀ j u, xs[j]? = some u → w.cell? ⟨g, off + j, none⟩ = some u)
theorem Seen.ofRow {w : World} {e : TypeId} {v : Value} {n : Nat} {xs : List Value} (h : RowAt w e 1 v n xs) : Seen w v xs := by
  have hn : xs.length = n := by have := h.1; omega
  obtain ⟨a, cap, rfl, h1, h2⟩ := h.slice
  refine ⟨a, cap, by rw [hn], by omega, h2, fun hne => ?_⟩
  have hp : 0 < n := by rw [← hn]; exact List.length_pos_iff.2 hne
  obtain ⟨g, off, cap', hv, _, _⟩ := h.addr hp
  simp only [Value.slice.injEq] at hv
  obtain ⟨rfl, _, rfl⟩ := hv
  exact ⟨g, off, rfl, fun j u hu => h.cellAt j u hu⟩
theorem Seen.still {w w' : World} {v : Value} {xs : List Value} (h : Seen w v xs) (hc : Chg (fun _ => False) w w') : Seen w' v xs := by
  obtain ⟨p, cap, rfl, h1, h2, h3⟩ := h
  refine ⟨p, cap, rfl, h1, h2, fun hne => ?_⟩
  obtain ⟨g, off, rfl, h4⟩ := h3 hne
  exact ⟨g, off, rfl, fun j u hu => hc.cell (h4 j u hu)⟩
/-- A slice from an index on. -/
def resl (p : Option Addr) (n cap d : Nat) : Value := .slice (if cap = d then p else p.map (·.add d)) (n - d) (cap - d)
theorem Seen.resl {w : World} {p : Option Addr} {n cap : Nat} {xs : List Value} (h : Seen w (.slice p n cap) xs) (d : Nat) (hd : d ≤ n) : Seen w (resl p n cap d) (xs.drop d) := by
  obtain ⟨p', cap', hv, h1, h2, h3⟩ := h
  simp only [Value.slice.injEq] at hv
  obtain ⟨rfl, rfl, rfl⟩ := hv
  refine ⟨_, cap - d, by rw [List.length_drop]; rfl, by rw [List.length_drop]; omega, by omega, fun hne => ?_⟩
  have hlt : d < xs.length := by
    apply Classical.byContradiction
    intro hh
    exact hne (List.drop_of_length_le (by omega))
  obtain ⟨g, off, rfl, h4⟩ := h3 (fun e => by rw [e] at hlt; simp at hlt)
  rw [if_neg (by omega)]
  refine ⟨g, off + d, by simp only [Option.map_some, Addr.add]; split <;> simp_all, fun j u hu => ?_⟩
  rw [List.getElem?_drop] at hu
  rw [Nat.add_assoc]
  exact h4 _ _ hu
set_option maxRecDepth 100000 in
theorem run_resl (w : World) (p : Option Addr) (n cap : Nat) (d : Int) (h0 : 0 ≤ d) (h1 : d ≤ n) : (Instr.slice 25 (.slice p n cap) (some (.int .i64 d)) none none).run Try.prog w = .ok (resl p n cap d.toNat) w := by
  rw [run_slice_l w 25 p n cap (by kernel_rfl) .i64 d h0 h1]
  rw [show (sizeOf (Try.prog.elem 25)).run Try.prog w = .ok 1 w from Try.sizeOf9 w]
  simp [Result.andThen, sliced, resl]

set_option maxHeartbeats 1600000 in
set_option maxRecDepth 100000 in
theorem clone_any (w : World) (v : Value) (xs : List ByteArray) (h : Seen w v (xs.map Value.string)) (hf : Few xs.length) :
    Calls Try.prog 36 #[v] w fun e w' => ∃ v', e = .returned v' ∧ RowAt w' 9 1 v' xs.length (xs.map Value.string) ∧ (∀ k, v'.ownBlock = some k → w.heap.size ≤ k) ∧ Chg (fun _ => False) w w' := by
  obtain ⟨p, cap, rfl, h1, h2, h3⟩ := h
  have hl : (xs.map Value.string).length = xs.length := by simp
  rw [hl] at h1 ⊢
  have HE := Lib.hid elem_str
  have heq := fun (W : World) => Lib.run_eql_slice_nil (P := Try.prog) W 25 9 p xs.length cap 0 0 Try.underlying25
  cases p with
  | none =>
    have hx : xs = [] := by
      apply Classical.byContradiction
      intro hne
      obtain ⟨g, off, hh, _⟩ := h3 (by simpa using hne)
      cases hh
    subst hx
    simp only [List.length_nil, List.map_nil] at *
    have heq0 : ∀ W : World, (binOp .eql 25 (.slice none 0 cap) (.slice none 0 0)).run Try.prog W = .ok (.bool true) W := by
      intro W
      have := heq W
      simpa using this
    clear heq
    go_enter Try.func36, Try.ntmps36
    go_wp2_with fail
    go_ret
    exact ⟨_, rfl, RowAt.nil _ _ _, by simp [Value.ownBlock], .refl _ _⟩
  | some ad =>
    have hch1 := Chg.alloc (fun _ => False) w (.cells #[] 9)
    have hrow1 : RowAt (w.alloc (.cells #[] 9)) 9 1 (.slice (some ⟨w.heap.size, 0, none⟩) 0 0) 0 [] := ⟨rfl, .inr ⟨w.heap.size, 0, 0, _, rfl, alloc_block w _, Nat.le_refl _, by simp, by simp, rfl⟩⟩
    have hsrc : Src Try.prog 1 25 (.slice (some ad) xs.length cap) xs.length (xs.map Value.string) (w.alloc (.cells #[] 9)) := by
      refine Src.ofSlice _ Try.underlying25 ad xs.length cap _ (by simp) ?_ (by intro u hu; obtain ⟨y, _, rfl⟩ := List.mem_map.1 hu; rfl)
      intro j u hu
      have hne : xs.map Value.string ≠ [] := by rintro e; rw [e] at hu; simp at hu
      obtain ⟨g, off, hh, h4⟩ := h3 hne
      cases hh
      rw [show (⟨g, off, none⟩ : Addr).add j = ⟨g, off + j, none⟩ from by unfold Addr.add; split <;> simp_all]
      exact hch1.cell (h4 j u hu)
    obtain ⟨i, z, hi, hz, hs1, hs2, hs3⟩ := HE.out
    have HI := Lib.hid hi
    have HZ := Lib.hid hz
    have H1 := Lib.hid hs1
    have H2 := Lib.hid hs2
    have H3 := Lib.hid hs3
    clear hi hz hs1 hs2 hs3 h3 hl
    go_enter Try.func36, Try.ntmps36
    go_wp2_with (first
      | (at_builtin; refine wpList_append_slice _ rfl (.tmp 5) (.tmp 6) 25 25 rfl 9 i z 1 16 Try.underlying25 HI.out HZ.out H1.out H2.out H3.out (by decide) _ 0 [] rfl hrow1 _ xs.length (xs.map Value.string) rfl hsrc (by have := hf.lt; unfold maxLen; omega) (by have := hf.lt; omega) ?_; intro a2 n2 c2 w2 hrow2 hchg2 hold2))
    go_ret
    refine ⟨_, rfl, by simpa using hrow2, ?_, ?_⟩
    · intro k hk
      rcases hold2 k hk with x | x
      · have x' : some w.heap.size = some k := x
        cases x'
        exact Nat.le_refl _
      · have := hch1.size; omega
    · refine hch1.trans hchg2 (fun _ _ x => x) (fun i hi x => ?_)
      have x' : some w.heap.size = some i := x
      cases x'
      exact Nat.lt_irrefl _ hi

def fromM (s : State) (page : ByteArray) (ep n ix : Int) : Option Nat × Int :=
  match (openM s page ep n).1 with
  | none => (none, (openM s page ep n).2)
  | some j => if ix < (s.entries.getD j noEntry).acked ∨ (s.entries.getD j noEntry).acked + (s.entries.getD j noEntry).pieces.length < ix then (none, 2) else (some j, 0)
/-- Numbers of an entry in their ranges. -/
structure EntryOk (x : Entry) : Prop where
  few : Few x.pieces.length
  ack : 0 ≤ x.acked
  ackFew : Few x.acked.toNat

set_option maxHeartbeats 1600000 in
set_option maxRecDepth 100000 in
theorem from_any (w : World) (b o : Nat) (s : State) (F : List Nat) (page : ByteArray) (ep n ix : Int) (v : Value) (H : Here stateR w b o s F) (hv : w.cell? ⟨b, o + 1, none⟩ = some v) (hl : ∀ x ∈ s.entries, EntryOk x) :
    Calls Try.prog 35 #[.pointer (some ⟨b, o, none⟩), .string page, .int .i64 ep, .int .i64 n, .int .i64 ix] w fun e w' => e = .returned (.tuple #[.pointer (rowPtr v 7 (fromM s page ep n ix).1), .int .i64 (fromM s page ep n ix).2]) ∧ Chg (fun _ => False) w w' := by
  have HR := Lib.hid (open_any w b o s F page ep n v H hv)
  cases hr : (openM s page ep n).1 with
  | none =>
    have hM : fromM s page ep n ix = (none, (openM s page ep n).2) := by unfold fromM; rw [hr]
    rw [hM]
    have h0 : ((openM s page ep n).2 == 0) = false := by rcases openM_none hr with h | h <;> rw [h] <;> rfl
    rw [hr, rowPtr_none] at HR
    rw [rowPtr_none]
    generalize (openM s page ep n).2 = err at *
    clear hM hr
    go_enter Try.func35, Try.ntmps35
    go_wp2_with fail
    refine HR.out.mono ?_
    rintro e w1 ⟨rfl, rfl⟩
    go_wp2_with fail
    go_quiet (fail)
    go_wp2_with fail
    go_ret2
    exact ⟨rfl, (Chg.refl _ w).drewNR _⟩
  | some j =>
    obtain ⟨hj, he⟩ := openM_some hr
    obtain ⟨g, off, cap, G, hv', HE, -⟩ := stEntry H hj
    rw [hv] at hv'
    cases hv'
    obtain ⟨vp, e0, e1, e2, e3, e4, e5, e6, hp⟩ := entryCells HE
    obtain ⟨xs, Fs, hpo⟩ := Rep.opened hp
    obtain ⟨pa, pc, rfl, hp1, hp2⟩ := hpo.val
    have hok := hl _ (List.getElem_mem hj)
    have hM : fromM s page ep n ix = if ix < s.entries[j].acked ∨ s.entries[j].acked + s.entries[j].pieces.length < ix then (none, 2) else (some j, 0) := by unfold fromM; rw [hr]; simp [hj]
    rw [hM]
    rw [he, rowPtr_some] at HR
    have hw : IntKind.i64.wrap (s.entries[j].acked + (s.entries[j].pieces.length : Int)) = s.entries[j].acked + (s.entries[j].pieces.length : Int) := IntWalk.i64_in _ (by have := hok.few.lt; have := hok.ackFew.lt; have := hok.ack; omega)
    have hln : (s.entries[j].pieces.length : Int) ≤ 9223372036854775807 := by have := hok.few.lt; omega
    clear hM hr he hok hp hpo
    generalize s.entries[j].acked = ac at *
    generalize s.entries[j].pieces.length = ln at *
    by_cases h1 : ix < ac
    · rw [if_pos (.inl h1), rowPtr_none]
      have hd1 : decide (ix < ac) = true := by simpa using h1
      clear h1
      go_enter Try.func35, Try.ntmps35
      go_wp2_with fail
      refine HR.out.mono ?_
      rintro e w1 ⟨rfl, rfl⟩
      go_wp2_with fail
      go_quiet (fail)
      go_wp2_with fail
      go_ret2
      exact ⟨rfl, (Chg.refl _ w).drewNR _⟩
    · have hd1 : decide (ix < ac) = false := by simpa using h1
      by_cases h2 : ac + ln < ix
      · rw [if_pos (.inr h2), rowPtr_none]
        have hd2 : decide (ac + (ln : Int) < ix) = true := by simpa using h2
        clear h1 h2
        go_enter Try.func35, Try.ntmps35
        go_wp2_with fail
        refine HR.out.mono ?_
        rintro e w1 ⟨rfl, rfl⟩
        go_wp2_with fail
        go_quiet (fail)
        go_wp2_with fail
        go_ret2
        exact ⟨rfl, (Chg.refl _ w).drewNR _⟩
      · rw [if_neg (by rintro (h | h); exact h1 h; exact h2 h), rowPtr_some]
        have hd2 : decide (ac + (ln : Int) < ix) = false := by simpa using h2
        clear h1 h2
        go_enter Try.func35, Try.ntmps35
        go_wp2_with fail
        refine HR.out.mono ?_
        rintro e w1 ⟨rfl, rfl⟩
        go_wp2_with fail
        go_quiet (fail)
        go_wp2_with fail
        go_ret2
        exact ⟨rfl, (Chg.refl _ w).drewNR _⟩
end Go.Proofs.Ytaacafdlklnegaa
