/-
  A region that draws its order is cut in two: a head, whose operations come up in any order, and a tail, which waits for the whole head and has one order. (What the head's loads read may be stored into by the tail.)
-/
import Derived.StillTail
import Derived.Deep.RegionHeld3
import Derived.Test.YthiiehanlconeaaDoorMem
namespace Go.Proofs.YthiiehanlconeaaDoor
open Go.RowKit
set_option linter.unusedVariables false
set_option linter.unusedSimpArgs false

section
variable {P : Program} {Q : Exit → Act → World → Prop}

def backB (l : List Oper) : Bool := (List.range l.length).all fun i =>
  match l[i]? with
  | some o => (o.after.all fun e => !Region.binds .any e || decide (e.on < i)) && (match o.guard with | some (g, _) => decide (g < i) | none => true)
  | none => true
def cutArr (n m : Nat) : Array Bool := Array.replicate n true ++ Array.replicate m false
def splitB (l : List Oper) (n : Nat) : Bool :=
  decide (n < l.length) && Region.sinkB .any l.toArray n && Region.chainB .any l.toArray n && backB l && Region.seqB .any l.toArray (l.length - n) n (cutArr n (l.length - n))
/-- What is left behind the head. -/
def headPost (P : Program) (l : List Oper) (n : Nat) (Q : Exit → Act → World → Prop) : Exit → Act → World → Prop
  | .normal, a, w => wpList P l.toArray Q (l.drop n) a w
  | .exit i, a, w => Q (.exit i) a w
  | .goto i, a, w => Q (.goto i) a w
  | .ret, a, w => Q .ret a w
  | .panic c, a, w => Q (.panic c) a w
  | .outgrown, a, w => Q .outgrown a w

theorem headPost_wp {l : List Oper} {n : Nat} {o : Oper} {a : Act} {w : World} {K K' : Act → World → Prop} (h : ∀ a w, K a w → K' a w) (hh : o.wp P a w K (headPost P l n Q)) : o.wp P a w K' Q := by
  unfold Oper.wp at *
  generalize (execOp a.eval o).run P w = r at *
  cases r with
  | ok x w' =>
    cases x with
    | enter f args => exact Calls.mono hh (fun e w'' he => by cases e <;> first | exact h _ _ he | exact he)
    | row r args => exact Rows.mono hh (fun _ _ he => h _ _ he)
    | _ => first | exact h _ _ hh | exact hh
  | halt x w' => cases x <;> exact hh

theorem head_at {l : List Oper} {n i : Nat} (hi : i < n) : (l.take n).toArray[i]? = l.toArray[i]? := by
  simp [hi]

theorem backB_spec {l : List Oper} (hB : backB l = true) {i : Nat} {o : Oper} (ho : l.toArray[i]? = some o) :
    (∀ e ∈ o.after, Region.binds .any e = true → e.on < i) ∧ (∀ g b, o.guard = some (g, b) → g < i) := by
  have hl : l[i]? = some o := by simpa using ho
  have hlt : i < l.length := (List.getElem?_eq_some_iff.1 hl).1
  have h := List.all_eq_true.1 hB i (List.mem_range.2 hlt)
  simp only [hl, Bool.and_eq_true] at h
  refine ⟨fun e he hb => ?_, fun g b hg => ?_⟩
  · have h1 := Array.all_eq_true_iff_forall_mem.1 h.1 e he
    simpa [hb] using h1
  · have h2 := h.2
    rw [hg] at h2
    simpa using h2

theorem wanted_head {l : List Oper} {n i : Nat} {o : Oper} (hB : backB l = true) (ho : l.toArray[i]? = some o) (hi : i < n) (t : Array Value) :
    Region.wanted o (yielded (l.take n).toArray t) = Region.wanted o (yielded l.toArray t) := by
  unfold Region.wanted
  cases hg : o.guard with
  | none => rfl
  | some x =>
    obtain ⟨g, b⟩ := x
    have h1 := (backB_spec hB ho).2 g b hg
    simp only
    unfold yielded
    rw [head_at (show g < n by omega)]

theorem wpOp_head {l : List Oper} {n i : Nat} {a : Act} {w : World} {K K' : Act → World → Prop} (hB : backB l = true) (hi : i < n) (h : ∀ a w, K a w → K' a w)
    (hh : wpOp P (l.take n).toArray (headPost P l n Q) i K a w) : wpOp P l.toArray Q i K' a w := by
  unfold wpOp at *
  rw [head_at hi] at hh
  cases ho : l.toArray[i]? with
  | none => simp only [ho] at hh ⊢; exact h _ _ hh
  | some o =>
    simp only [ho] at hh ⊢
    rw [wanted_head hB ho hi] at hh
    by_cases hw : Region.wanted o (yielded l.toArray a.tmps) = true
    · rw [if_pos hw] at hh ⊢
      exact hh.imp (headPost_wp h) id
    · rw [if_neg hw] at hh ⊢
      exact h _ _ hh

theorem getD_both' {x : Array Bool} {i : Nat} (h : i < x.size) : x.getD i true = x.getD i false := by simp [h]

theorem some_ready {l : List Oper} {n : Nat} {x : Array Bool} (hB : backB l = true) (hn : n ≤ l.length) (hx : x.size = n) : ∀ i, i < n → x.getD i true = false → ∃ j, j ∈ Region.ready .any (l.take n).toArray x := by
  intro i
  induction i using Nat.strongRecOn with
  | _ i ih =>
    intro hi hu
    have hl : i < l.length := by omega
    have ho : l.toArray[i]? = some l[i] := by simp [hl]
    by_cases hall : ∀ e ∈ l[i].after, Region.binds .any e = true → x.getD e.on false = true
    · exact ⟨i, mem_ready.2 ⟨hu, l[i], by rw [head_at hi]; exact ho, hall⟩⟩
    · simp only [Classical.not_forall] at hall
      obtain ⟨e, he, hb, hne⟩ := hall
      have hlt := (backB_spec hB ho).1 e he hb
      exact ih e.on hlt (by omega) (by rw [getD_both' (by omega)]; simpa using hne)

theorem wpAny_split {l : List Oper} {n : Nat} (hn : n < l.length) (hs : Region.sinkB .any l.toArray n = true) (hc : Region.chainB .any l.toArray n = true) (hB : backB l = true)
    (hq : Region.seqB .any l.toArray (l.length - n) n (cutArr n (l.length - n)) = true) :
    ∀ (f : Nat) (x y : Array Bool) (a : Act) (w : World), x.size = n → HeadInv .any l.toArray n y → (∀ i, i < n → y.getD i true = x.getD i true) → x.toList.count false = f →
      wpAny P .any (l.take n).toArray (headPost P l n Q) f x a w → wpAny P .any l.toArray Q (f + (l.length - n)) y a w := by
  intro f
  induction f with
  | zero =>
    intro x y a w hx hy hxy hf h
    have hall : ∀ i, i < n → x.getD i true = true := by
      intro i hi
      have h0 := List.count_eq_zero.1 hf
      have hlt : i < x.size := by omega
      rcases hb : x.getD i true with _ | _
      · exact absurd (by have : x[i] = false := by simpa [hlt] using hb
                         rw [← this]; simp) h0
      · rfl
    have hyc : y = cutArr n (l.length - n) := by
      have hys : y.size = l.length := by simpa using hy.size
      refine Array.ext (by simp [cutArr, hys]; omega) fun i h1 h2 => ?_
      by_cases hi : i < n
      · have := hxy i hi
        rw [hall i hi] at this
        have e1 : y[i] = true := by simpa [h1] using this
        rw [e1]
        simp [cutArr, Array.getElem_append, hi]
      · have := hy.tail i (by omega) (by simpa [hys] using h1)
        have e1 : y[i] = false := by simpa [h1] using this
        rw [e1]
        simp [cutArr, Array.getElem_append, hi]
    have hd : (l.drop n).length = l.length - n := by simp
    have := wpAny_of_seq (P := P) (md := .any) (ops := l.toArray) (Q' := Q) (l.drop n) n y a w (fun j => by simp [List.getElem?_drop]) (by rw [hd, hyc]; exact hq) h.2
    rw [hd] at this
    rwa [Nat.zero_add]
  | succ f ih =>
    intro x y a w hx hy hxy hf h
    have hpos : false ∈ x.toList := List.count_pos_iff.1 (by omega)
    obtain ⟨i0, hi0, he0⟩ := List.getElem_of_mem hpos
    have hi0x : i0 < x.size := by simpa using hi0
    have hu0 : x.getD i0 true = false := by simpa [hi0x] using he0
    have hys : y.size = l.length := by simpa using hy.size
    rw [show f + 1 + (l.length - n) = (f + (l.length - n)) + 1 by omega]
    have hsame : ∀ i, i < n → y.getD i false = x.getD i false := fun i hi => by
      rw [← getD_both' (by omega), ← getD_both' (by omega)]; exact hxy i hi
    have hmem : ∀ i, i ∈ Region.ready .any l.toArray y → i < n := by
      intro i hi
      rcases Nat.lt_or_ge i n with h1 | h1
      · exact h1
      · exact absurd hi (tail_waits hs hc (by simpa using hn) hy _ i0 rfl (by omega) (by rw [hxy i0 (by omega)]; exact hu0) i h1)
    refine ⟨fun h0 => ?_, fun i hi => ?_⟩
    · obtain ⟨j, hj⟩ := some_ready hB (by omega) hx i0 (by omega) hu0
      obtain ⟨a1, o, a2, a3⟩ := mem_ready.1 hj
      have hjn : j < n := by
        have := (Array.getElem?_eq_some_iff.1 a2).1
        simp at this; omega
      rw [head_at hjn] at a2
      have : j ∈ Region.ready .any l.toArray y := mem_ready.2 ⟨by rw [hxy j hjn]; exact a1, o, a2, fun e he hb => by
        have := (backB_spec hB a2).1 e he hb
        rw [hsame e.on (by omega)]; exact a3 e he hb⟩
      rw [h0] at this
      cases this
    · have hin := hmem i hi
      obtain ⟨a1, o, a2, a3⟩ := mem_ready.1 hi
      have hih : i ∈ Region.ready .any (l.take n).toArray x := mem_ready.2 ⟨by rw [← hxy i hin]; exact a1, o, by rw [head_at hin]; exact a2, fun e he hb => by
        have := (backB_spec hB a2).1 e he hb
        rw [← hsame e.on (by omega)]; exact a3 e he hb⟩
      refine wpOp_head hB hin (fun a' w' hk => ?_) (h.2 i hih)
      have hxi : x.getD i true = false := by rw [← hxy i hin]; exact a1
      have hil : i < x.toList.length := by simpa [hx] using hin
      refine ih _ _ a' w' (by simpa using hx) (hy.set hi hin) (fun j hj => ?_) ?_ hk
      · by_cases hij : i = j
        · subst hij
          simp [hys, show i < l.length by omega, hx, hin]
        · rw [getD_set_ne true hij, getD_set_ne true hij]; exact hxy j hj
      · have hxe : x.toList[i] = false := by
          have : x[i]'(by omega) = false := by simpa [show i < x.size by omega] using hxi
          simpa using this
        rw [Array.toList_setIfInBounds, List.count_set hil, hxe, hf]
        simp

/-- **The cut.** -/
theorem wp_region_held_split {id : Nat} {a : Act} {w : World} {l : List Oper} (n : Nat) (S : World → Prop) (hm : P.follows .mixedOrders = true) (hB : splitB l n = true) (hS : S w.drew)
    (h : S w.drew → wpAnyH P .any (l.take n).toArray (headPost P l n Q) S n (Array.replicate n false) a w.drew) : (Code.region id l.toArray true).wp P Q a w := by
  simp only [splitB, Bool.and_eq_true, decide_eq_true_eq] at hB
  obtain ⟨⟨⟨⟨hn, hs⟩, hc⟩, hb⟩, hq⟩ := hB
  refine wp_region_any hm ?_
  have inv0 : HeadInv .any l.toArray n (Array.replicate l.toArray.size false) :=
    ⟨by simp, fun j oj _ hl => (by rw [getD_replicate_false] at hl; cases hl), fun t _ ht => getD_in (by simpa using ht) (getD_replicate_false _ _)⟩
  have := wpAny_split hn hs hc hb hq n (Array.replicate n false) (Array.replicate l.toArray.size false) a w.drew (by simp) inv0 (fun i hi => by
    rw [getD_both' (by simp; omega), getD_both' (by simp; omega), getD_replicate_false, getD_replicate_false]) (by simp) (wpAny_of_held _ _ _ _ (h hS))
  have e : n + (l.length - n) = l.toArray.size := by rw [List.size_toArray]; omega
  rw [e] at this
  exact this
end
end Go.Proofs.YthiiehanlconeaaDoor
