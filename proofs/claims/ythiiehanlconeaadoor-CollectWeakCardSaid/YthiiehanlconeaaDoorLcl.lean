/-
  Discovery, plainly: what is found is closed; found again where only what was not found has gone.
-/
import Derived.Test.YthiiehanlconeaaDoorLiv
namespace Go.Proofs.YthiiehanlconeaaDoor
set_option linter.unusedVariables false

theorem addAll_mem {K l : List Nat} {y : Nat} (h : y ∈ l) : y ∈ addAll K l := by
  induction l generalizing K with
  | nil => cases h
  | cons a l ih =>
    unfold addAll at *
    rw [List.foldl_cons]
    rcases List.mem_cons.1 h with rfl | h
    · refine (addAll_prefix (addN K y) l).subset ?_
      unfold addN; split
      · assumption
      · simp
    · exact ih h
theorem pre_mem {K K' : List Nat} (h : K <+: K') {y : Nat} (hy : y ∈ K) : y ∈ K' := h.subset hy
section
variable {N : Nat} {g : Nat → List Nat} {ps : Nat → List (Nat × Nat)}
theorem drain_prefix (g : Nat → List Nat) : ∀ (f : Nat) (K : List Nat) (p : Nat), K <+: drain g f K p
  | 0, K, p => List.prefix_refl _
  | f + 1, K, p => by
    by_cases h : p < K.length
    · rw [drain_some h]; exact (addAll_prefix _ _).trans (drain_prefix g f _ _)
    · rw [drain_none (by omega)]; exact List.prefix_refl _
/-- The first p elements have been looked through. -/
def Seen2 (g : Nat → List Nat) (K : List Nat) (p : Nat) : Prop := ∀ i (h : i < K.length), i < p → ∀ y ∈ g K[i], y ∈ K
theorem seen_pre {K K' : List Nat} {p : Nat} (h : Seen2 g K p) (hp : p ≤ K.length) (hk : K <+: K') : Seen2 g K' p := by
  intro i hi hip y hy
  obtain ⟨t, rfl⟩ := hk
  rw [List.getElem_append_left (by omega)] at hy
  exact List.mem_append_left _ (h i (by omega) hip y hy)
theorem drain_closed (hg : ∀ o, o < N → ∀ y ∈ g o, y < N) : ∀ (f : Nat) (K : List Nat) (p : Nat), N - p ≤ f → Good N K → Seen2 g K p → p ≤ K.length → Seen2 g (drain g f K p) (drain g f K p).length
  | 0, K, p, hf, hK, hs, hp => by
    have := good_len N K hK
    rw [drain_none (by omega)]
    intro i hi _
    exact hs i hi (by omega)
  | f + 1, K, p, hf, hK, hs, hp => by
    by_cases h : p < K.length
    · have := good_len N K hK
      rw [drain_some h]
      refine drain_closed hg f _ (p + 1) (by omega) (hK.all (hg _ (hK.lt _ (List.getElem_mem h)))) ?_ (by have := addAll_len K (g K[p]); omega)
      intro i hi hip y hy
      by_cases e : i < p
      · exact seen_pre hs hp (addAll_prefix _ _) i hi e y hy
      · have e2 : i = p := by omega
        subst e2
        have : (addAll K (g K[i]))[i] = K[i] := by
          obtain ⟨t, ht⟩ := addAll_prefix K (g K[i])
          have hh : (addAll K (g K[i]))[i]? = K[i]? := by rw [← ht, List.getElem?_append_left h]
          rw [List.getElem?_eq_getElem hi, List.getElem?_eq_getElem h] at hh
          exact Option.some.inj hh
        rw [this] at hy
        exact addAll_mem hy
    · rw [drain_none (by omega)]
      intro i hi _
      exact hs i hi (by omega)
theorem wk_mem {l : List (Nat × Nat)} {K : List Nat} {q : Nat × Nat} (hq : q ∈ l) (h1 : q.1 ∈ K) : q.2 ∈ l.foldl wkStep K := by
  induction l generalizing K with
  | nil => cases hq
  | cons a l ih =>
    rw [List.foldl_cons]
    rcases List.mem_cons.1 hq with rfl | hq
    · refine (wkAll_prefix l _).subset ?_
      unfold wkStep
      rw [if_pos h1]
      unfold addN; split
      · assumption
      · simp
    · exact ih hq ((wkStep_prefix K a).subset h1)
structure Closed (g : Nat → List Nat) (ps : Nat → List (Nat × Nat)) (K : List Nat) : Prop where
  g : ∀ o ∈ K, ∀ y ∈ g o, y ∈ K
  w : ∀ o ∈ K, ∀ q ∈ ps o, q.1 ∈ K → q.2 ∈ K
theorem liveR_closed (hg : ∀ o, o < N → ∀ y ∈ g o, y < N) (hps : ∀ o, o < N → ∀ q ∈ ps o, q.2 < N) : ∀ (f : Nat) (K : List Nat) (p : Nat), N + 1 - p ≤ f → (p < K.length ∨ K = [] ∧ p = 0) → Good N K → Seen2 g K p → Closed g ps (liveR g ps N f K p)
  | 0, K, p, hf, hp, hK, hs => by
    have := good_len N K hK
    rcases hp with h | ⟨rfl, rfl⟩ <;> omega
  | f + 1, K, p, hf, hp, hK, hs => by
    have hpl : p ≤ K.length := by rcases hp with h | ⟨rfl, rfl⟩ <;> simp_all <;> omega
    have h1 := drain_closed hg N K p (by omega) hK hs hpl
    have h2 : Good N (drain g N K p) := Good.drain hg N p hK
    have h3 := h2.weakP hps
    have h4 := weakP_len (ps := ps) (drain g N K p)
    have h5 : drain g N K p <+: weakP ps (drain g N K p) := wkAll_prefix _ _
    have h6 := drain_len (g := g) N K p
    unfold liveR
    generalize drain g N K p = D at *
    by_cases e : (weakP ps D).length = D.length
    · rw [if_pos e]
      have e2 : weakP ps D = D := (h5.eq_of_length e.symm).symm
      rw [e2]
      refine ⟨fun o ho y hy => ?_, fun o ho q hq h => ?_⟩
      · obtain ⟨i, hi, rfl⟩ := List.mem_iff_getElem.1 ho
        exact h1 i hi hi y hy
      · have : q.2 ∈ weakP ps D := wk_mem (List.mem_flatMap.2 ⟨o, ho, hq⟩) h
        rwa [e2] at this
    · rw [if_neg e]
      have hlen := good_len N _ h3
      have hD : D.length ≠ 0 ∨ D = [] := by by_cases z : D.length = 0; exact .inr (List.eq_nil_of_length_eq_zero z); exact .inl z
      have hne : D ≠ [] := by
        rintro rfl
        exact e rfl
      have hD0 : 0 < D.length := List.length_pos_iff.2 hne
      refine liveR_closed hg hps f _ _ ?_ (.inl (by omega)) h3 (seen_pre h1 (Nat.le_refl _) h5)
      rcases hp with h | ⟨rfl, rfl⟩ <;> simp_all <;> omega
/-! ### Found again -/
variable {g' : Nat → List Nat} {ps' : Nat → List (Nat × Nat)} {L : List Nat}
theorem drain_same (hgg : ∀ o ∈ L, g' o = g o) : ∀ (f : Nat) (K : List Nat) (p : Nat), (∀ y ∈ drain g f K p, y ∈ L) → drain g' f K p = drain g f K p
  | 0, K, p, _ => rfl
  | f + 1, K, p, h => by
    by_cases hp : p < K.length
    · rw [drain_some hp] at h ⊢
      have hk : K[p] ∈ L := h _ ((drain_prefix g f _ _).subset ((addAll_prefix _ _).subset (List.getElem_mem hp)))
      rw [drain_some hp, hgg _ hk]
      exact drain_same hgg f _ _ h
    · rw [drain_none (by omega), drain_none (by omega)]
theorem wks_same : ∀ (l : List (Nat × Nat)) (K : List Nat), (∀ y ∈ l.foldl wkStep K, y ∈ L) → (l.filter fun q => decide (q.1 ∈ L)).foldl wkStep K = l.foldl wkStep K
  | [], K, _ => rfl
  | a :: l, K, h => by
    rw [List.foldl_cons] at h ⊢
    by_cases ha : a.1 ∈ L
    · rw [List.filter_cons_of_pos (by simpa using ha), List.foldl_cons]
      exact wks_same l _ h
    · rw [List.filter_cons_of_neg (by simpa using ha)]
      have hn : wkStep K a = K := by
        unfold wkStep
        rw [if_neg]
        intro hm
        exact ha (h _ ((wkAll_prefix l _).subset ((wkStep_prefix K a).subset hm)))
      rw [hn] at h ⊢
      exact wks_same l K h
theorem weak_same (hpp : ∀ o ∈ L, ps' o = (ps o).filter fun q => decide (q.1 ∈ L)) (K : List Nat) (h : ∀ y ∈ weakP ps K, y ∈ L) : weakP ps' K = weakP ps K := by
  have hK : ∀ y ∈ K, y ∈ L := fun y hy => h y ((wkAll_prefix _ _).subset hy)
  have e : ∀ M : List Nat, (∀ y ∈ M, y ∈ L) → M.flatMap ps' = (M.flatMap ps).filter fun q => decide (q.1 ∈ L) := by
    intro M
    induction M with
    | nil => intro _; rfl
    | cons a M ih =>
      intro hM
      rw [List.flatMap_cons, List.flatMap_cons, List.filter_append, hpp a (hM a (by simp)), ih fun y hy => hM y (by simp [hy])]
  unfold weakP at *
  rw [e K hK]
  exact wks_same _ _ h
theorem liveK_prefix (g : Nat → List Nat) (ps : Nat → List (Nat × Nat)) (N : Nat) : ∀ (f : Nat) (K : List Nat) (p : Nat), K <+: liveK g ps N f K p
  | 0, K, p => List.prefix_refl _
  | f + 1, K, p => by
    unfold liveK
    split
    · exact ((drain_prefix g N K p).trans (wkAll_prefix _ _)).trans (liveK_prefix g ps N f _ _)
    · exact List.prefix_refl _
theorem liveK_same (hgg : ∀ o ∈ L, g' o = g o) (hpp : ∀ o ∈ L, ps' o = (ps o).filter fun q => decide (q.1 ∈ L)) : ∀ (f : Nat) (K : List Nat) (p : Nat), (∀ y ∈ liveK g ps N f K p, y ∈ L) → liveK g' ps' N f K p = liveK g ps N f K p
  | 0, K, p, _ => rfl
  | f + 1, K, p, h => by
    unfold liveK at h ⊢
    by_cases hp : p < K.length
    · rw [if_pos hp] at h ⊢
      rw [if_pos hp]
      have h1 : ∀ y ∈ weakP ps (drain g N K p), y ∈ L := fun y hy => h y ((liveK_prefix g ps N f _ _).subset hy)
      have h2 : ∀ y ∈ drain g N K p, y ∈ L := fun y hy => h1 y ((wkAll_prefix _ _).subset hy)
      rw [drain_same hgg N K p h2, weak_same hpp _ h1]
      exact liveK_same hgg hpp f _ _ h
    · rw [if_neg hp, if_neg hp]
end
end Go.Proofs.YthiiehanlconeaaDoor
