/-
  The reference of layer 35: its objects in memory; Live.
-/
import Derived.Test.YthiiehanlconeaaDoorRfa
import Derived.Test.YthiiehanlconeaaDoorRoe
import Derived.Test.YthiiehanlconeaaDoorLiv
namespace Go.Proofs.YthiiehanlconeaaDoor
open Go.RowKit
set_option linter.unusedVariables false
set_option linter.unusedSimpArgs false

def natI (K : List Nat) : List Int := K.map fun i : Nat => (i : Int)
theorem natI_len (K : List Nat) : (natI K).length = K.length := List.length_map ..
def natR : Rep Nat := Rep.flat 1 (fun n : Nat => [.int .i64 (n : Int)]) (fun _ => rfl)
structure RObj where
  weak : Bool
  strong : List Nat
  keys : List Nat
  vals : List Nat
def RObj.Own (w : World) (cs : List Value) (s : RObj) (F : List Nat) : Prop :=
  ∃ v1 v2 v3 F1 F2 F3, cs = [.bool s.weak, v1, v2, v3] ∧ (natR.row 3).own w [v1] s.strong F1 ∧ (natR.row 3).own w [v2] s.keys F2 ∧ (natR.row 3).own w [v3] s.vals F3 ∧ F = F1 ++ F2 ++ F3
def robjR : Rep RObj where
  n := 4
  own := RObj.Own
  len := by rintro w cs s F ⟨v1, v2, v3, F1, F2, F3, rfl, h1, h2, h3, rfl⟩; rfl
  lt := by
    rintro w cs s F ⟨v1, v2, v3, F1, F2, F3, rfl, h1, h2, h3, rfl⟩ k hk
    simp only [List.mem_append] at hk
    rcases hk with (x | x) | x
    · exact (natR.row 3).lt h1 k x
    · exact (natR.row 3).lt h2 k x
    · exact (natR.row 3).lt h3 k x
  keep := by
    rintro w w2 cs s F ⟨v1, v2, v3, F1, F2, F3, rfl, h1, h2, h3, rfl⟩ hk
    exact ⟨v1, v2, v3, F1, F2, F3, rfl, (natR.row 3).keep h1 (fun k hm => hk k (by simp [hm])), (natR.row 3).keep h2 (fun k hm => hk k (by simp [hm])), (natR.row 3).keep h3 (fun k hm => hk k (by simp [hm])), rfl⟩
theorem robjR_weak : FieldOf robjR Rep.bool 0 (·.weak) (fun s y => { s with weak := y }) := by
  refine ⟨by show 0 + 1 ≤ 4; omega, ?_⟩
  rintro w cs s F ⟨v1, v2, v3, F1, F2, F3, rfl, h1, h2, h3, rfl⟩
  refine ⟨F1 ++ F2 ++ F3, [], [], by simp, ⟨rfl, rfl⟩, fun w2 ys y G hk hy => ?_⟩
  obtain ⟨rfl, rfl⟩ := hy
  exact ⟨v1, v2, v3, F1, F2, F3, rfl, (natR.row 3).keep h1 (fun k hm => hk k (by simp [hm])), (natR.row 3).keep h2 (fun k hm => hk k (by simp [hm])), (natR.row 3).keep h3 (fun k hm => hk k (by simp [hm])), by simp⟩
theorem robjR_strong : FieldOf robjR (natR.row 3) 1 (·.strong) (fun s y => { s with strong := y }) := by
  refine ⟨by show 1 + 1 ≤ 4; omega, ?_⟩
  rintro w cs s F ⟨v1, v2, v3, F1, F2, F3, rfl, h1, h2, h3, rfl⟩
  refine ⟨[], F1, F2 ++ F3, by simp, h1, fun w2 ys y G hk hy => ?_⟩
  obtain ⟨y0, rfl⟩ : ∃ y0, ys = [y0] := List.length_eq_one_iff.1 ((natR.row 3).len hy)
  exact ⟨y0, v2, v3, G, F2, F3, rfl, hy, (natR.row 3).keep h2 (fun k hm => hk k (by simp [hm])), (natR.row 3).keep h3 (fun k hm => hk k (by simp [hm])), by simp⟩
theorem robjR_keys : FieldOf robjR (natR.row 3) 2 (·.keys) (fun s y => { s with keys := y }) := by
  refine ⟨by show 2 + 1 ≤ 4; omega, ?_⟩
  rintro w cs s F ⟨v1, v2, v3, F1, F2, F3, rfl, h1, h2, h3, rfl⟩
  refine ⟨F1, F2, F3, by simp, h2, fun w2 ys y G hk hy => ?_⟩
  obtain ⟨y0, rfl⟩ : ∃ y0, ys = [y0] := List.length_eq_one_iff.1 ((natR.row 3).len hy)
  exact ⟨v1, y0, v3, F1, G, F3, rfl, (natR.row 3).keep h1 (fun k hm => hk k (by simp [hm])), hy, (natR.row 3).keep h3 (fun k hm => hk k (by simp [hm])), by simp⟩
theorem robjR_vals : FieldOf robjR (natR.row 3) 3 (·.vals) (fun s y => { s with vals := y }) := by
  refine ⟨by show 3 + 1 ≤ 4; omega, ?_⟩
  rintro w cs s F ⟨v1, v2, v3, F1, F2, F3, rfl, h1, h2, h3, rfl⟩
  refine ⟨F1 ++ F2, F3, [], by simp, h3, fun w2 ys y G hk hy => ?_⟩
  obtain ⟨y0, rfl⟩ : ∃ y0, ys = [y0] := List.length_eq_one_iff.1 ((natR.row 3).len hy)
  exact ⟨v1, v2, y0, F1, F2, G, rfl, (natR.row 3).keep h1 (fun k hm => hk k (by simp [hm])), (natR.row 3).keep h2 (fun k hm => hk k (by simp [hm])), hy, by simp⟩
/-- A row of small numbers, read. -/
theorem natRow {w : World} {v : Value} {l : List Nat} {F : List Nat} (h : (natR.row 3).own w [v] l F) : RowAt w 3 1 v l.length (intC (natI l)) ∧ F = ownL v := by
  obtain ⟨v', e, r, hF⟩ := row_flat.1 h
  obtain rfl : v = v' := by simpa using e
  rw [flatMap_one] at r
  refine ⟨?_, hF⟩
  have : (l.map fun n : Nat => Value.int .i64 (n : Int)) = intC (natI l) := by unfold intC natI; rw [List.map_map]; rfl
  rw [← this]; exact r
/-- An object of the reference, read. -/
structure RoC (w : World) (g o : Nat) (x : RObj) (v1 v2 v3 : Value) : Prop where
  c0 : w.cell? ⟨g, o, none⟩ = some (.bool x.weak)
  c1 : w.cell? ⟨g, o + 1, none⟩ = some v1
  c2 : w.cell? ⟨g, o + 2, none⟩ = some v2
  c3 : w.cell? ⟨g, o + 3, none⟩ = some v3
  r1 : RowAt w 3 1 v1 x.strong.length (intC (natI x.strong))
  r2 : RowAt w 3 1 v2 x.keys.length (intC (natI x.keys))
  r3 : RowAt w 3 1 v3 x.vals.length (intC (natI x.vals))
theorem RoC.still {w w' : World} {g o : Nat} {x : RObj} {v1 v2 v3 : Value} (h : RoC w g o x v1 v2 v3) (hc : Chg (fun _ => False) w w') : RoC w' g o x v1 v2 v3 :=
  ⟨hc.cell h.c0, hc.cell h.c1, hc.cell h.c2, hc.cell h.c3, h.r1.chg hc (fun _ _ x => x), h.r2.chg hc (fun _ _ x => x), h.r3.chg hc (fun _ _ x => x)⟩
theorem roOpen {w : World} {T : TypeId} {v : Value} {xs : List RObj} {F : List Nat} (h : Row robjR T w v xs F) {i : Nat} (hi : i < xs.length) :
    ∃ g off cap, v = .slice (some ⟨g, off, none⟩) xs.length cap ∧ ∃ v1 v2 v3, RoC w g (off + i * 4) xs[i] v1 v2 v3 := by
  obtain ⟨g, off, cap, rfl, cs, G, ⟨v1, v2, v3, F1, F2, F3, rfl, h1, h2, h3, -⟩, -, hc⟩ := h.cell hi
  have e : off + i * robjR.n = off + i * 4 := rfl
  rw [e] at hc
  exact ⟨g, off, cap, rfl, v1, v2, v3, hc 0 _ rfl, hc 1 _ rfl, hc 2 _ rfl, hc 3 _ rfl, (natRow h1).1, (natRow h2).1, (natRow h3).1⟩
/-- A row of rows of small numbers, read. -/
theorem mrOpen {w : World} {T : TypeId} {v : Value} {xs : List (List Nat)} {F : List Nat} (h : Row (natR.row 3) T w v xs F) {i : Nat} (hi : i < xs.length) :
    ∃ g off cap, v = .slice (some ⟨g, off, none⟩) xs.length cap ∧ ∃ v1, w.cell? ⟨g, off + i, none⟩ = some v1 ∧ RowAt w 3 1 v1 xs[i].length (intC (natI xs[i])) := by
  obtain ⟨g, off, cap, rfl, cs, G, ho, -, hc⟩ := h.cell hi
  have ho' := ho
  obtain ⟨v1, x, y, rfl, -⟩ := ho'
  have e : off + i * (natR.row 3).n = off + i := by show off + i * 1 = off + i; omega
  rw [e] at hc
  exact ⟨g, off, cap, rfl, v1, hc 0 _ rfl, (natRow ho).1⟩
theorem addI_nat {K : List Nat} {i n : Nat} (hi : i < n) : addI (natI K) (i : Int) (n : Int) = natI (addN K i) := by
  have hm : ((i : Int) ∈ natI K) ↔ i ∈ K := by
    unfold natI
    rw [List.mem_map]
    constructor
    · rintro ⟨a, ha, e⟩
      have : a = i := by omega
      subst this; exact ha
    · exact fun h => ⟨i, h, rfl⟩
  unfold addI addN
  by_cases h : i ∈ K
  · rw [if_pos (.inr (.inr (hm.2 h))), if_pos h]
  · rw [if_neg (by rintro (x | x | x); omega; omega; exact h (hm.1 x)), if_neg h]
    simp [natI]
/-- The objects of the reference: n of them, numbers below n. -/
structure XOk (n : Nat) (xs : List RObj) (more : List (List Nat)) : Prop where
  len : xs.length = n
  strong : ∀ x ∈ xs, ∀ y ∈ x.strong, y < n
  vals : ∀ x ∈ xs, ∀ y ∈ x.vals, y < n
  keys : ∀ x ∈ xs, x.keys.length = x.vals.length
  mores : ∀ l ∈ more, ∀ y ∈ l, y < n
  few : n ≤ 1000
  sl : ∀ x ∈ xs, x.strong.length ≤ 100000
  kl : ∀ x ∈ xs, x.keys.length ≤ 100000
  ml : ∀ l ∈ more, l.length ≤ 100000
  mn : more.length ≤ 100000
def noR : RObj := ⟨false, [], [], []⟩
def gR (xs : List RObj) (more : List (List Nat)) (j : Nat) : List Nat := (xs.getD j noR).strong ++ more.getD j []
def psR (xs : List RObj) (j : Nat) : List (Nat × Nat) := if (xs.getD j noR).weak then (xs.getD j noR).keys.zip (xs.getD j noR).vals else []
theorem addAll_append (K a b : List Nat) : addAll K (a ++ b) = addAll (addAll K a) b := by unfold addAll; rw [List.foldl_append]
theorem addAll_snoc (K a : List Nat) (b : Nat) : addAll K (a ++ [b]) = addN (addAll K a) b := by unfold addAll; rw [List.foldl_append]; rfl
theorem getD_get {α : Type} {l : List α} {d : α} {i : Nat} (h : i < l.length) : l.getD i d = l[i] := by rw [List.getD_eq_getElem?_getD, List.getElem?_eq_getElem h]; rfl
theorem XOk.g {n : Nat} {xs : List RObj} {more : List (List Nat)} (h : XOk n xs more) : ∀ o, o < n → ∀ y ∈ gR xs more o, y < n := by
  intro o ho y hy
  unfold gR at hy
  rcases List.mem_append.1 hy with x | x
  · have hl : o < xs.length := by rw [h.len]; exact ho
    rw [getD_get hl] at x
    exact h.strong _ (List.getElem_mem hl) y x
  · by_cases hl : o < more.length
    · rw [getD_get hl] at x
      exact h.mores _ (List.getElem_mem hl) y x
    · rw [List.getD_eq_getElem?_getD, List.getElem?_eq_none (by omega)] at x
      simp at x
theorem XOk.ps {n : Nat} {xs : List RObj} {more : List (List Nat)} (h : XOk n xs more) : ∀ o, o < n → ∀ p ∈ psR xs o, p.2 < n := by
  intro o ho p hp
  unfold psR at hp
  have hl : o < xs.length := by rw [h.len]; exact ho
  rw [getD_get hl] at hp
  split at hp
  · obtain ⟨a, b⟩ := p
    exact h.vals _ (List.getElem_mem hl) b (List.of_mem_zip hp).2
  · cases hp
end Go.Proofs.YthiiehanlconeaaDoor
