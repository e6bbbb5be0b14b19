/-
  A heap and a list of numbers side by side, both made behind w0.
-/
import Derived.Test.YthiiehanlconeaaDoorGst
import Derived.Test.YthiiehanlconeaaDoorMkg
namespace Go.Proofs.YthiiehanlconeaaDoor
open Go.RowKit
set_option linter.unusedVariables false
set_option linter.unusedSimpArgs false

section
variable {α : Type} {A : Rep α} {w W W' : World} {b o : Nat} {a : α} {F : List Nat}
theorem Own.beside {S : Nat → Prop} (h : Own A w W b o a F) (hc : Chg S W W') (hd : ∀ k ∈ b :: F, ¬ S k) (hlo : ∀ k, S k → w.heap.size ≤ k) : Own A w W' b o a F :=
  ⟨h.here.chg hc (hd b (List.mem_cons_self ..)) (fun k hk => hd k (List.mem_cons_of_mem _ hk)), h.chg.trans hc (fun _ _ x => x) (fun i hi x => by have := hlo i x; omega), h.lo, h.los⟩
theorem Own.allLt (h : Own A w W b o a F) : ∀ k ∈ b :: F, k < W.heap.size := fun k hk => by
  rcases List.mem_cons.1 hk with rfl | hk
  · exact h.here.lt.1
  · exact h.here.lt.2 k hk
theorem Own.allLo (h : Own A w W b o a F) : ∀ k ∈ b :: F, w.heap.size ≤ k := fun k hk => by
  rcases List.mem_cons.1 hk with rfl | hk
  · exact h.lo
  · exact h.los k hk
end
theorem apart_grow {b N : Nat} {F F' X : List Nat} (h : ∀ k ∈ b :: F, k ∉ X) (hn : ∀ k ∈ F', k ∈ F ∨ N ≤ k) (hx : ∀ k ∈ X, k < N) : ∀ k ∈ b :: F', k ∉ X := fun k hk x => by
  rcases List.mem_cons.1 hk with rfl | hk
  · exact h _ (List.mem_cons_self ..) x
  · rcases hn k hk with y | y
    · exact h k (List.mem_cons_of_mem _ y) x
    · have := hx k x; omega
structure HL (w W : World) (bh : Nat) (hp : Hp) (v : Value) (L : List Int) (F : List Nat) : Prop where
  heap : Own hpR w W bh 0 hp F
  li : OutI w W v L
  d : ∀ k ∈ bh :: F, k ∉ ownL v
section
variable {w W W' : World} {bh : Nat} {hp hp' : Hp} {v v' : Value} {L L' : List Int} {F : List Nat}
theorem HL.still (h : HL w W bh hp v L F) (hc : Chg (fun _ => False) W W') : HL w W' bh hp v L F := ⟨h.heap.still hc, h.li.still hc, h.d⟩
theorem HL.heapS (h : HL w W bh hp v L F) (hp1 : Post hpR W bh 0 hp' F W') : ∃ F', HL w W' bh hp' v L F' := by
  obtain ⟨F', h1, h2⟩ := hp1
  have hS : ∀ k, (k = bh ∨ k ∈ F) → k ∈ bh :: F := fun k x => x.elim (fun e => e ▸ List.mem_cons_self ..) (List.mem_cons_of_mem _)
  have hlo : ∀ k, (k = bh ∨ k ∈ F) → w.heap.size ≤ k := fun k x => h.heap.allLo k (hS k x)
  exact ⟨F', h.heap.step h1 h2, h.li.other h2.chg (fun k hk x => h.d k (hS k x) (mem_ownL.2 hk)) (fun k hk x => by have := hlo k x; omega),
    apart_grow h.d h2.new (fun k hk => h.li.row.lt k (mem_ownL.1 hk))⟩
theorem HL.liS (h : HL w W bh hp v L F) (hc : Chg (fun k => v.ownBlock = some k) W W') (ho : OutI w W' v' L') (hold : ∀ k, v'.ownBlock = some k → v.ownBlock = some k ∨ W.heap.size ≤ k) : HL w W' bh hp v' L' F :=
  ⟨h.heap.beside hc (fun k hk x => h.d k hk (mem_ownL.2 x)) h.li.lo, ho, fun k hk x => by
    rcases hold k (mem_ownL.1 x) with y | y
    · exact h.d k hk (mem_ownL.2 y)
    · have := h.heap.allLt k hk; omega⟩
theorem HL.of (h : Own hpR w W bh 0 hp F) : HL w W bh hp (.slice none 0 0) [] F :=
  ⟨h, ⟨RowAt.nil _ _ _, fun k hk => by simp [Value.ownBlock] at hk, h.chg⟩, fun k hk x => by simp [ownL, Value.ownBlock] at x⟩
end
end Go.Proofs.YthiiehanlconeaaDoor
