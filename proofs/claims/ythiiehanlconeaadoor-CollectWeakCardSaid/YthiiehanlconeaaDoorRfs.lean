/-
  A range over a function whose iterator makes its list first; a law of its own, and the iterator of collect.refs.
-/
import Derived.Test.YthiiehanlconeaaDoorFrs
import Derived.Test.YthiiehanlconeaaDoorMkt
import Derived.RangeFuncNested
import Derived.RangeFuncBound
import Derived.RangeFuncCalls
import Derived.RangeFuncLeaves
import Derived.OwnWalkIn
import Derived.TacticsInMore
import Derived.LoopNIn
import Derived.LoopIn
namespace Go.Proofs.YthiiehanlconeaaDoor
open Go.RowKit
attribute [local go_sem] Oper.semAt_some
set_option linter.unusedVariables false
set_option linter.unusedSimpArgs false

theorem Chg.putObj {S : Nat → Prop} {a b : World} (h : Chg S a b) (l : Nat) (o : _root_.Go.Obj) (hl : l < a.heap.size → S l) : Chg S a (b.putObj l o) :=
  h.trans (Chg.grown (grownBy_putObj' b l o)) (fun _ _ x => x) (fun i hi e => by cases e; exact hl hi)
/-- The contract of an iterator that makes its list first and changes nothing that lay there. -/
def SeqList {α : Type} (F : Fence) (n : Nat) (P : Program) (g : Nat) (lb : Array Value) (encs : α → Array Value) (xs : List α) (W : World) : Prop :=
  ∀ (l : Nat) (J : Nat → List α → World → Prop), (∀ W', Chg (fun _ => False) W W' → J W'.heap.size [] W') →
    (∀ B1 pre x W1, W.heap.size ≤ B1 → J B1 pre W1 → pre <+: xs → (pre ++ [x]) <+: xs → YieldAt F (n - 1) P l (encs x) W1 fun e W' =>
      e = .returned (.bool true) ∧ J B1 (pre ++ [x]) W' ∧ (∀ k o, W.heap.size ≤ k → k < B1 → W1.heap[k]? = some o → W'.heap[k]? = some o)) →
    CallsIn F n P g (#[.func (.yield l) #[] #[]] ++ lb) W fun e W' => (∃ v, e = .returned v) ∧ ∃ B1, W.heap.size ≤ B1 ∧ J B1 xs W'

/-- A range over such an iterator. -/
theorem wpIn_rangeFunc_list {F : Fence} {n : Nat} {P : Program} {α : Type} {g : Operand} {ps : Array Tmp} {assign body : Code} {Q : Exit → Act → World → Prop} {a : Act} {w : World}
    (hro : F.round = none) (h1 : 1 ≤ n) {gf : Nat} {lb : Array Value} (hg : a.eval g = .func (.func gf) #[] lb) (hFg : F.fn gf) (eg : ∀ args w, (callFunc gf args).run P w = .ok (.enter gf args) w)
    {encs : α → Array Value} {xs : List α} (hseq : ∀ W, Chg (fun _ => False) w W → SeqList F (n - 1) P gf lb encs xs W) (hps : ∀ x, (encs x).size = ps.size)
    (I : Nat → List α → World → Prop)
    (hI : ∀ B1 pre W l o o', I B1 pre W → w.heap.size ≤ l → W.heap[l]? = some o → o.isCells = false → I B1 pre (W.putObj l o'))
    (h0 : ∀ W, Chg (fun _ => False) w W → I W.heap.size [] W) (a₁ : α → Act)
    (hassign : ∀ (l : Nat) (x : α) (W : World) (K : Act → World → Prop), K (a₁ x) W →
      assign.wpIn (F.inRound l) (n - 1 - 1) P (Exit.then K (fun _ _ _ => False)) { tmps := (ps.zip (encs x)).foldl (fun t (p, v) => t.setIfInBounds p v) a.tmps, defers := [] } W)
    (hbody : ∀ (l B1 : Nat) (pre : List α) (x : α) (W : World), w.heap.size ≤ B1 → I B1 pre W → (pre ++ [x]) <+: xs →
      body.wpIn (F.inRound l) (n - 1 - 1) P (fun e _ W' => e = .normal ∧ I B1 (pre ++ [x]) W' ∧ ∀ k o, w.heap.size ≤ k → k < B1 → W.heap[k]? = some o → W'.heap[k]? = some o) (a₁ x) W)
    (hdone : ∀ (D B1 : Nat) (W : World), w.heap.size ≤ D → I B1 xs W → W.heap[D]? = some (.deferred (some [])) → Q .normal { a with defers := { target := .collected D, args := #[] } :: a.defers } W) :
    (Code.rangeFunc g ps assign body).wpIn F n P Q a w := by
  refine wpIn_rangeFunc ?_
  intro fn hfn
  rw [hro]
  obtain ⟨rec, hrec⟩ : ∃ rec : LoopState → Option Code → Loop, rec = fun st pe => { state := st, pending := pe, fn, tmps := a.tmps, params := ps, assign, body, defers := w.heap.size } := ⟨_, rfl⟩
  obtain ⟨W1, hW1⟩ : ∃ W1, (w.alloc (.deferred (some []))).alloc (.loop (rec .ready none)) = W1 := ⟨_, rfl⟩
  have hc1 : Chg (fun _ => False) w W1 := by rw [← hW1]; exact (Chg.alloc _ _ _).allocR _
  have hs1 : W1.heap.size = w.heap.size + 1 + 1 := by rw [← hW1]; simp
  have hL1 : W1.heap[w.heap.size + 1]? = some (.loop (rec .ready none)) := by
    rw [← hW1]; have := World.alloc_heap_new (w.alloc (.deferred (some []))) (.loop (rec .ready none)); rwa [World.size_alloc] at this
  have hK1 : W1.heap[w.heap.size]? = some (.deferred (some [])) := by
    rw [← hW1]; exact (Below.heap_alloc _ _ _ (by simp)).trans (World.alloc_heap_new w _)
  refine ⟨w.heap.size + 1, [{ target := .collected w.heap.size, args := #[] }], W1, { target := .fn (.func gf) lb, args := #[.func (.yield (w.heap.size + 1)) #[] #[]] }, W1, gf,
    #[.func (.yield (w.heap.size + 1)) #[] #[]] ++ lb, W1, ?_, ?_, ?_, ?_, fun _ => h1, ?_⟩
  · rw [← hW1, hrec]; exact run_enterLoop_outer _ _ _ _ _
  · simp only [resolve, hg]
    simp [go_sem]
  · intro f' hf'; simp [Target.leads] at hf'; subst hf'; exact hFg
  · simp [invoke, go_sem, eg]
  · refine ((hseq W1 hc1) (w.heap.size + 1)
      (fun B1 pre W => I B1 pre W ∧ W.heap[w.heap.size + 1]? = some (.loop (rec .ready none)) ∧ W.heap[w.heap.size]? = some (.deferred (some [])))
      (fun W' hc => ⟨h0 W' (hc1.trans' hc), hc.keep hL1 (fun x => x), hc.keep hK1 (fun x => x)⟩) ?_).mono ?_
    · rintro B1 pre x W hB ⟨hi, hl, hk⟩ - hpre
      rw [hs1] at hB ⊢
      have hlt : w.heap.size + 1 < W.heap.size := (Array.getElem?_eq_some_iff.1 hl).1
      have hy := run_yield (P := P) (args := encs x) hl (by rw [hrec]; exact hps x)
      rw [hrec] at hy
      refine ⟨fn, _, assign, body, hy, roundIn_of_wpIn hfn (hassign _ x W _ ⟨_, run_beginRound hl (by rw [hrec]), ?_⟩)⟩
      have hl2 : (W.putObj (w.heap.size + 1) (.loop { rec .ready none with state := .busy })).heap[w.heap.size + 1]? = some (.loop { rec .ready none with state := .busy }) := World.putObj_heap_same hlt
      have hk2 : (W.putObj (w.heap.size + 1) (.loop { rec .ready none with state := .busy })).heap[w.heap.size]? = some (.deferred (some [])) := (World.putObj_heap_other (by omega)).trans hk
      refine wpIn_mono (hbody _ B1 pre x _ (by omega) (hI _ _ _ _ _ _ hi (by omega) hl rfl) hpre) ?_
      rintro e a3 W3 ⟨rfl, hi3, hkeep⟩
      have hl3 := hkeep _ _ (by omega) (by omega) hl2
      have hk3 := hkeep _ _ (by omega) (by omega) hk2
      have hr := run_endRound (P := P) none hl3
      have hlt3 := (Array.getElem?_eq_some_iff.1 hl3).1
      rw [hrec] at hr
      refine ⟨_, _, hr, rfl, ⟨hI _ _ _ _ _ _ hi3 (by omega) hl3 rfl, ?_, (World.putObj_heap_other (by omega)).trans hk3⟩, ?_⟩
      · rw [hrec]; exact World.putObj_heap_same hlt3
      · intro k o h2 h3 ho
        by_cases hkl : k = w.heap.size + 1
        · omega
        · rw [World.putObj_heap_other (by omega)]
          exact hkeep _ _ (by omega) h3 (by rw [World.putObj_heap_other (by omega)]; exact ho)
    · rintro e W2 ⟨⟨v, rfl⟩, B1, hB, hi, hl, hk⟩
      exact ⟨none, _, by have := run_endLoop (P := P) hl (by rw [hrec]; simp); rw [hrec] at this; exact this, hdone _ B1 _ (Nat.le_refl _) (hI _ _ _ _ _ _ hi (by omega) hl rfl) ((World.putObj_heap_other (by omega)).trans hk)⟩
end Go.Proofs.YthiiehanlconeaaDoor
