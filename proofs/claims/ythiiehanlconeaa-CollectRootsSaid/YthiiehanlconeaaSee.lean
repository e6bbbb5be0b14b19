/-
  The map of what was seen: map[int]bool, made by the call itself.
-/
import Derived.Test.YthiiehanlconeaaOut
import Derived.Maps.Own
import Derived.Maps.Views
namespace Go.Proofs.Ythiiehanlconeaa
open Go.RowKit
set_option linter.unusedVariables false

structure Seen (W : World) (b n : Nat) (S : List Int) : Prop where
  ex : ∃ D : DataW Unit, W.ownsMap Try.prog 3 (plainElem Try.prog 4) b n D ∧ Maps.IsMap D ∧ ∀ k : Int, (Lit.int .i64 k).wf = true → D.atKey (.int .i64 k) (.lit (.bool false)) = .lit (.bool (decide (k ∈ S)))
theorem i64_wf {k : Int} (h : -9223372036854775808 ≤ k ∧ k ≤ 9223372036854775807) : (Lit.int .i64 k).wf = true := by
  have e1 : IntKind.i64.min = -9223372036854775808 := by decide
  have e2 : IntKind.i64.max = 9223372036854775807 := by decide
  simp [Lit.wf, e1, e2, h]
theorem plainElem_bool_inv {H : Type} {P : Program} {e : TypeId} (he : P.underlying e = some .bool) {v : Value} {z : DataW H × List MemPlace} (h : plainElem P e v = some z) : ∃ x, v = .bool x ∧ z = (.lit (.bool x), []) := by
  unfold plainElem at h
  rw [he] at h
  cases v <;> simp at h
  subst h
  exact ⟨_, rfl, rfl⟩
theorem seen_made (W : World) : Seen (W.alloc (.map #[] 0)) W.heap.size 0 [] :=
  ⟨.map [], World.ownsMap_made W Try.prog 3 _, ⟨[], rfl⟩, fun k _ => by rw [WideAt.atKey_none _ (by simp)]; simp⟩
set_option maxRecDepth 100000 in
theorem zero_bool (W : World) : (zeroValue 4).run Try.prog W = .ok (.bool false) W := by kernel_rfl
section
variable {W W' : World} {b n : Nat} {S : List Int}
theorem Seen.kept (h : Seen W b n S) {Q : Nat → Prop} (hc : Chg Q W W') (hb : ¬ Q b) : Seen W' b n S := by
  obtain ⟨D, ⟨es, clock, h1, r⟩, h2, h3⟩ := h.ex
  exact ⟨D, ⟨es, clock, hc.keep h1 hb, r⟩, h2, h3⟩
theorem Seen.lt (h : Seen W b n S) : b < W.heap.size := by
  obtain ⟨D, h1, -⟩ := h.ex
  exact h1.lt
theorem Seen.look (h : Seen W b n S) {k : Int} (hk : -9223372036854775808 ≤ k ∧ k ≤ 9223372036854775807) : (Instr.lookup 104 (.map (some b)) (.int .i64 k) false).run Try.prog W = .ok (.bool (decide (k ∈ S))) W := by
  obtain ⟨D, h1, h2, h3⟩ := h.ex
  obtain ⟨v, ps, hrun, hR⟩ := h1.lookup (Maps.int_keyed Try.underlying3) Try.underlying104 (z := .bool false) (zero_bool W) (plainElem_bool Try.underlying4 false) (Maps.keyOf_int_mk Try.underlying3 (i64_wf hk))
  rw [h3 k (i64_wf hk)] at hR
  obtain ⟨x, rfl, e⟩ := plainElem_bool_inv Try.underlying4 hR
  rw [hrun]
  simp only [Prod.mk.injEq, DataW.lit.injEq, Lit.bool.injEq] at e
  rw [← e.1]
theorem Seen.put (h : Seen W b n S) {k : Int} (hk : -9223372036854775808 ≤ k ∧ k ≤ 9223372036854775807) (hn : n < maxLen) : ∃ W', (Instr.mapUpdate 104 (.map (some b)) (.int .i64 k) (.bool true)).run Try.prog W = .ok () W' ∧ Seen W' b (n + 1) (k :: S) ∧ Chg (fun j => j = b) W W' := by
  obtain ⟨D, h1, h2, h3⟩ := h.ex
  obtain ⟨W', hrun, hown, g⟩ := h1.update (Maps.int_keyed Try.underlying3) Try.underlying104 hn (Maps.keyOf_int_mk Try.underlying3 (i64_wf hk)) (plainElem_bool Try.underlying4 true)
  refine ⟨W', hrun, ⟨_, hown, ?_, fun q hq => ?_⟩, g.os, g.tape, g.output, g.size, fun j hj hn => g.block j hj (fun e => hn (Option.some.inj e))⟩
  · obtain ⟨l, rfl⟩ := h2
    rw [DataW.put_eq]
    exact ⟨_, rfl⟩
  · by_cases e : q = k
    · subst e
      rw [Maps.atKey_put_same h2 ((Maps.int_keyed (P := Try.prog) Try.underlying3).key (Maps.keyOf_int_mk Try.underlying3 hq))]
      simp
    · rw [Maps.atKey_put_other (fun x => e (by injection x)), h3 q hq]
      simp [e]
end
end Go.Proofs.Ythiiehanlconeaa
