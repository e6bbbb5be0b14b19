/-
  Discovery in order, plainly: what is found from roots over references and weak entries; the same within a greater list.
-/
import Derived.Test.YthiiehanlconeaaDoorHoldd
namespace Go.Proofs.YthiiehanlconeaaDoor
set_option linter.unusedVariables false

def addN (K : List Nat) (i : Nat) : List Nat := if i ∈ K then K else K ++ [i]
def addAll (K l : List Nat) : List Nat := l.foldl addN K
def drain (g : Nat → List Nat) : Nat → List Nat → Nat → List Nat
  | 0, K, _ => K
  | f + 1, K, p => match K[p]? with
    | some o => drain g f (addAll K (g o)) (p + 1)
    | none => K
def wkStep (K : List Nat) (p : Nat × Nat) : List Nat := if p.1 ∈ K then addN K p.2 else K
def weakP (ps : Nat → List (Nat × Nat)) (K : List Nat) : List Nat := (K.flatMap ps).foldl wkStep K
def liveK (g : Nat → List Nat) (ps : Nat → List (Nat × Nat)) (N : Nat) : Nat → List Nat → Nat → List Nat
  | 0, K, _ => K
  | f + 1, K, p => if p < K.length then liveK g ps N f (weakP ps (drain g N K p)) (drain g N K p).length else K
def liveR (g : Nat → List Nat) (ps : Nat → List (Nat × Nat)) (N : Nat) : Nat → List Nat → Nat → List Nat
  | 0, K, _ => K
  | f + 1, K, p => if (weakP ps (drain g N K p)).length = (drain g N K p).length then weakP ps (drain g N K p) else liveR g ps N f (weakP ps (drain g N K p)) (drain g N K p).length

/-- Different numbers below N. -/
structure Good (N : Nat) (K : List Nat) : Prop where
  nd : K.Nodup
  lt : ∀ i ∈ K, i < N
theorem Good.nil (N : Nat) : Good N [] := ⟨List.nodup_nil, fun _ h => by cases h⟩
theorem good_len : ∀ (N : Nat) (K : List Nat), Good N K → K.length ≤ N
  | 0, K, h => by
    cases K with
    | nil => exact Nat.le_refl _
    | cons a K => exact absurd (h.lt a (by simp)) (by omega)
  | N + 1, K, h => by
    have h1 := good_len N (K.erase N) ⟨h.nd.erase _, fun i hi => by
      have h2 := h.lt i (List.mem_of_mem_erase hi)
      have h3 : i ≠ N := fun e => by subst e; exact (List.Nodup.mem_erase_iff h.nd).1 hi |>.1 rfl
      omega⟩
    rw [List.length_erase] at h1
    split at h1 <;> omega
section
variable {N n : Nat} {K l : List Nat} {i : Nat} {g : Nat → List Nat} {ps : Nat → List (Nat × Nat)}
theorem Good.add (h : Good N K) (hi : i < N) : Good N (addN K i) := by
  unfold addN
  split
  · exact h
  · rename_i hn
    refine ⟨List.nodup_append.2 ⟨h.nd, by simp, fun a ha b hb e => ?_⟩, fun j hj => ?_⟩
    · rw [List.mem_singleton] at hb; subst hb; subst e; exact hn ha
    · rcases List.mem_append.1 hj with x | x
      · exact h.lt j x
      · rw [List.mem_singleton.1 x]; exact hi
theorem Good.all (h : Good N K) (hl : ∀ y ∈ l, y < N) : Good N (addAll K l) := by
  unfold addAll
  induction l generalizing K with
  | nil => exact h
  | cons a l ih => exact ih (h.add (hl a (by simp))) fun y hy => hl y (by simp [hy])
theorem addN_prefix (K : List Nat) (i : Nat) : K <+: addN K i := by
  unfold addN
  split
  · exact List.prefix_refl _
  · exact List.prefix_append _ _
theorem addAll_prefix (K l : List Nat) : K <+: addAll K l := by
  unfold addAll
  induction l generalizing K with
  | nil => exact List.prefix_refl _
  | cons a l ih => exact (addN_prefix K a).trans (ih _)
theorem addN_len (K : List Nat) (i : Nat) : K.length ≤ (addN K i).length := (addN_prefix K i).length_le
theorem addAll_len (K l : List Nat) : K.length ≤ (addAll K l).length := (addAll_prefix K l).length_le
theorem drain_none {f p : Nat} (h : K.length ≤ p) : drain g f K p = K := by
  cases f with
  | zero => rfl
  | succ f => simp only [drain, List.getElem?_eq_none h]
theorem drain_some {f p : Nat} (h : p < K.length) : drain g (f + 1) K p = drain g f (addAll K (g K[p])) (p + 1) := by simp only [drain, List.getElem?_eq_getElem h]
theorem drain_len : ∀ (f : Nat) (K : List Nat) (p : Nat), K.length ≤ (drain g f K p).length
  | 0, K, p => Nat.le_refl _
  | f + 1, K, p => by
    by_cases h : p < K.length
    · rw [drain_some h]; exact Nat.le_trans (addAll_len _ _) (drain_len f _ _)
    · rw [drain_none (by omega)]; exact Nat.le_refl _
theorem Good.drain (hg : ∀ o, o < N → ∀ y ∈ g o, y < N) : ∀ (f : Nat) {K : List Nat} (p : Nat), Good N K → Good N (drain g f K p)
  | 0, K, p, h => h
  | f + 1, K, p, h => by
    by_cases hp : p < K.length
    · rw [drain_some hp]; exact Good.drain hg f _ (h.all (hg _ (h.lt _ (List.getElem_mem hp))))
    · rw [drain_none (by omega)]; exact h
theorem drain_fuel (hg : ∀ o, o < N → ∀ y ∈ g o, y < N) : ∀ (f f' : Nat) {K : List Nat} (p : Nat), N - p ≤ f → N - p ≤ f' → Good N K → drain g f K p = drain g f' K p
  | 0, f', K, p, h1, h2, h => by have := good_len N K h; rw [drain_none (by omega), drain_none (by omega)]
  | f + 1, f', K, p, h1, h2, h => by
    by_cases hp : p < K.length
    · have := good_len N K h
      obtain ⟨k, rfl⟩ : ∃ k, f' = k + 1 := ⟨f' - 1, by omega⟩
      rw [drain_some hp, drain_some hp]
      exact drain_fuel hg f k _ (by omega) (by omega) (h.all (hg _ (h.lt _ (List.getElem_mem hp))))
    · rw [drain_none (by omega), drain_none (by omega)]
theorem wkStep_prefix (K : List Nat) (p : Nat × Nat) : K <+: wkStep K p := by
  unfold wkStep
  split
  · exact addN_prefix _ _
  · exact List.prefix_refl _
theorem wkAll_prefix (l : List (Nat × Nat)) (K : List Nat) : K <+: l.foldl wkStep K := by
  induction l generalizing K with
  | nil => exact List.prefix_refl _
  | cons a l ih => exact (wkStep_prefix K a).trans (ih _)
theorem weakP_len (K : List Nat) : K.length ≤ (weakP ps K).length := (wkAll_prefix _ _).length_le
theorem Good.wk {p : Nat × Nat} (h : Good N K) (hp : p.2 < N) : Good N (wkStep K p) := by
  unfold wkStep
  split
  · exact h.add hp
  · exact h
theorem Good.wkAll {l : List (Nat × Nat)} (h : Good N K) (hp : ∀ p ∈ l, p.2 < N) : Good N (l.foldl wkStep K) := by
  induction l generalizing K with
  | nil => exact h
  | cons a l ih => exact ih (h.wk (hp a (by simp))) fun p hp' => hp p (by simp [hp'])
theorem Good.weakP (hps : ∀ o, o < N → ∀ p ∈ ps o, p.2 < N) (h : Good N K) : Good N (weakP ps K) :=
  h.wkAll fun p hp => by
    obtain ⟨o, ho, hp⟩ := List.mem_flatMap.1 hp
    exact hps o (h.lt o ho) p hp
theorem liveK_done {f p : Nat} (h : K.length ≤ p) : liveK g ps N f K p = K := by
  cases f with
  | zero => rfl
  | succ f => simp only [liveK, if_neg (Nat.not_lt.2 h)]
theorem liveK_step {f p : Nat} (h : p < K.length) : liveK g ps N (f + 1) K p = liveK g ps N f (_root_.Go.Proofs.YthiiehanlconeaaDoor.weakP ps (_root_.Go.Proofs.YthiiehanlconeaaDoor.drain g N K p)) (_root_.Go.Proofs.YthiiehanlconeaaDoor.drain g N K p).length := by simp only [liveK, if_pos h]
end

/-! ### A list within a greater one: the numbers shifted by c behind the list S. -/
def emb (c : Nat) (S out : List Nat) : List Nat := S ++ out.map (c + ·)
structure Emb (c n : Nat) (S : List Nat) (g g' : Nat → List Nat) (ps ps' : Nat → List (Nat × Nat)) : Prop where
  good : Good c S
  own : ∀ s ∈ S, ∀ y ∈ g' s, y ∈ S
  none : ∀ s ∈ S, ps' s = []
  gs : ∀ j, j < n → g' (c + j) = (g j).map (c + ·)
  pss : ∀ j, j < n → ps' (c + j) = (ps j).map fun p => (c + p.1, c + p.2)
  glt : ∀ o, o < n → ∀ y ∈ g o, y < n
  plt : ∀ o, o < n → ∀ p ∈ ps o, p.2 < n
section
variable {c n : Nat} {S out : List Nat} {g g' : Nat → List Nat} {ps ps' : Nat → List (Nat × Nat)}
theorem emb_len : (emb c S out).length = S.length + out.length := by simp [emb]
theorem emb_mem (h : Good c S) (j : Nat) : c + j ∈ emb c S out ↔ j ∈ out := by
  unfold emb
  rw [List.mem_append, List.mem_map]
  constructor
  · rintro (x | ⟨y, hy, e⟩)
    · have := h.lt _ x; omega
    · have : y = j := by omega
      subst this; exact hy
  · exact fun hj => .inr ⟨j, hj, rfl⟩
theorem emb_old {s : Nat} (h : s ∈ S) : s ∈ emb c S out := List.mem_append_left _ h
theorem emb_add (h : Good c S) (j : Nat) : addN (emb c S out) (c + j) = emb c S (addN out j) := by
  unfold addN
  by_cases hj : j ∈ out
  · rw [if_pos hj, if_pos ((emb_mem h j).2 hj)]
  · rw [if_neg hj, if_neg (fun x => hj ((emb_mem h j).1 x))]
    simp [emb]
theorem emb_all (h : Good c S) : ∀ (l out : List Nat), addAll (emb c S out) (l.map (c + ·)) = emb c S (addAll out l)
  | [], out => rfl
  | a :: l, out => by
    have := emb_all h l (addN out a)
    unfold addAll at *
    rw [List.map_cons, List.foldl_cons, List.foldl_cons, emb_add h, this]
theorem addN_old {K : List Nat} {s : Nat} (h : s ∈ K) : addN K s = K := by unfold addN; rw [if_pos h]
theorem addAll_old : ∀ {l K : List Nat}, (∀ s ∈ l, s ∈ K) → addAll K l = K
  | [], K, _ => rfl
  | a :: l, K, h => by
    have := addAll_old (l := l) (K := K) fun s hs => h s (by simp [hs])
    unfold addAll at *
    rw [List.foldl_cons, addN_old (h a (by simp)), this]
theorem emb_wk (h : Good c S) (p : Nat × Nat) : wkStep (emb c S out) (c + p.1, c + p.2) = emb c S (wkStep out p) := by
  unfold wkStep
  simp only
  by_cases hj : p.1 ∈ out
  · rw [if_pos hj, if_pos ((emb_mem h _).2 hj), emb_add h]
  · rw [if_neg hj, if_neg (fun x => hj ((emb_mem h _).1 x))]
theorem emb_wks (h : Good c S) : ∀ (l : List (Nat × Nat)) (out : List Nat), (l.map fun p => (c + p.1, c + p.2)).foldl wkStep (emb c S out) = emb c S (l.foldl wkStep out)
  | [], out => rfl
  | a :: l, out => by rw [List.map_cons, List.foldl_cons, List.foldl_cons, emb_wk h, emb_wks h l]
theorem flatMap_shift (hps : ∀ j, j < n → ps' (c + j) = (ps j).map fun p => (c + p.1, c + p.2)) : ∀ (l : List Nat), (∀ j ∈ l, j < n) → (l.map (c + ·)).flatMap ps' = (l.flatMap ps).map fun p => (c + p.1, c + p.2)
  | [], _ => rfl
  | a :: l, h => by
    rw [List.map_cons, List.flatMap_cons, List.flatMap_cons, List.map_append, hps a (h a (by simp)), flatMap_shift hps l fun j hj => h j (by simp [hj])]
theorem flatMap_nil' : ∀ (l : List Nat), (∀ s ∈ l, ps' s = []) → l.flatMap ps' = []
  | [], _ => rfl
  | a :: l, h => by rw [List.flatMap_cons, h a (by simp), flatMap_nil' l fun s hs => h s (by simp [hs])]; rfl
theorem emb_weak (E : Emb c n S g g' ps ps') (ho : Good n out) : weakP ps' (emb c S out) = emb c S (weakP ps out) := by
  unfold weakP
  have h1 : (emb c S out).flatMap ps' = (out.flatMap ps).map fun p => (c + p.1, c + p.2) := by
    unfold emb
    rw [List.flatMap_append, flatMap_nil' S E.none, List.nil_append, flatMap_shift E.pss out ho.lt]
  rw [h1, emb_wks E.good]
theorem emb_at {p : Nat} (hp : p < out.length) : (emb c S out)[S.length + p]? = some (c + out[p]) := by
  unfold emb
  rw [List.getElem?_append_right (by omega), show S.length + p - S.length = p from by omega, List.getElem?_map, List.getElem?_eq_getElem hp]
  rfl
theorem emb_drain (E : Emb c n S g g' ps ps') : ∀ (f : Nat) {out : List Nat} (p : Nat), Good n out → drain g' f (emb c S out) (S.length + p) = emb c S (drain g f out p)
  | 0, out, p, _ => rfl
  | f + 1, out, p, ho => by
    by_cases hp : p < out.length
    · have h1 := emb_at (c := c) (S := S) hp
      have hn := ho.lt _ (List.getElem_mem hp)
      rw [drain_some hp]
      simp only [drain, h1]
      rw [E.gs _ hn, emb_all E.good, Nat.add_assoc, emb_drain E f (p + 1) (ho.all (E.glt _ hn))]
    · rw [drain_none (K := emb c S out) (by rw [emb_len]; omega), drain_none (K := out) (by omega)]
theorem emb_skip (E : Emb c n S g g' ps ps') (f : Nat) : ∀ (k : Nat), k ≤ S.length → drain g' (f + k) (emb c S out) (S.length - k) = drain g' f (emb c S out) S.length
  | 0, _ => rfl
  | k + 1, hk => by
    have hs : S.length - (k + 1) < S.length := by omega
    have h1 : (emb c S out)[S.length - (k + 1)]? = some S[S.length - (k + 1)] := by
      unfold emb
      rw [List.getElem?_append_left hs, List.getElem?_eq_getElem hs]
    rw [← Nat.add_assoc]
    simp only [drain, h1]
    rw [addAll_old fun y hy => emb_old (E.own _ (List.getElem_mem hs) y hy), show S.length - (k + 1) + 1 = S.length - k from by omega]
    exact emb_skip E f k (by omega)
theorem live_rest (E : Emb c n S g g' ps ps') : ∀ (f f' N' : Nat) {out : List Nat} (p : Nat), (p < out.length ∨ out = []) → n + 1 - p ≤ f → n - p ≤ f' → n ≤ N' → Good n out →
    liveK g' ps' N' f' (emb c S out) (S.length + p) = emb c S (liveR g ps n f out p)
  | 0, f', N', out, p, hp, h1, h2, h3, ho => by
    have h4 := good_len n out ho
    rcases hp with hp | hp
    · omega
    · subst hp
      rw [liveK_done (by rw [emb_len]; simp)]
      rfl
  | f + 1, f', N', out, p, hp, h1, h2, h3, ho => by
    have h4 := good_len n out ho
    rcases hp with hp | hp
    · obtain ⟨k, rfl⟩ : ∃ k, f' = k + 1 := ⟨f' - 1, by omega⟩
      rw [liveK_step (by rw [emb_len]; omega)]
      rw [emb_drain E N' p ho, drain_fuel E.glt N' n p (by omega) (by omega) ho]
      have ho1 : Good n (drain g n out p) := Good.drain E.glt n p ho
      have hl1 := drain_len (g := g) n out p
      have ho2 := ho1.weakP E.plt
      have hl2 := weakP_len (ps := ps) (drain g n out p)
      rw [emb_weak E ho1, emb_len]
      unfold liveR
      by_cases he : (weakP ps (drain g n out p)).length = (drain g n out p).length
      · rw [if_pos he, liveK_done (by rw [emb_len]; omega)]
      · rw [if_neg he]
        exact live_rest E f k N' _ (.inl (by omega)) (by omega) (by omega) h3 ho2
    · subst hp
      rw [liveK_done (by rw [emb_len]; simp)]
      have : drain g n [] p = [] := drain_none (by simp)
      unfold liveR
      rw [this]
      rfl
/-- What is found behind S and from out is what is found from out, shifted, behind S. -/
theorem live_emb (E : Emb c n S g g' ps ps') {N' : Nat} (hN : c + n ≤ N') (ho : Good n out) : liveK g' ps' N' N' (emb c S out) 0 = emb c S (liveR g ps n (n + 1) out 0) := by
  have hc := good_len c S E.good
  by_cases hS : S = []
  · subst hS
    have := live_rest E (n + 1) N' N' (out := out) 0 (by cases out <;> simp) (by omega) (by omega) (by omega) ho
    simpa using this
  have hS1 : 0 < S.length := by cases S <;> simp_all
  obtain ⟨k, rfl⟩ : ∃ k, N' = k + 1 := ⟨N' - 1, by omega⟩
  rw [liveK_step (by rw [emb_len]; omega)]
  have h1 := emb_skip (out := out) E (k + 1 - S.length) S.length (Nat.le_refl _)
  rw [Nat.sub_self, show k + 1 - S.length + S.length = k + 1 from by omega] at h1
  have h2 : drain g' (k + 1 - S.length) (emb c S out) S.length = emb c S (drain g (k + 1 - S.length) out 0) := emb_drain E (k + 1 - S.length) 0 ho
  rw [h1, h2, drain_fuel E.glt (k + 1 - S.length) n 0 (by omega) (by omega) ho]
  have ho1 : Good n (drain g n out 0) := Good.drain E.glt n 0 ho
  have hl1 := drain_len (g := g) n out 0
  have ho2 := ho1.weakP E.plt
  have hl2 := weakP_len (ps := ps) (drain g n out 0)
  have hl3 := good_len n _ ho2
  rw [emb_weak E ho1, emb_len]
  unfold liveR
  by_cases he : (weakP ps (drain g n out 0)).length = (drain g n out 0).length
  · rw [if_pos he, liveK_done (by rw [emb_len]; omega)]
  · rw [if_neg he]
    have h0 : 0 < (weakP ps (drain g n out 0)).length := by omega
    by_cases hd : (drain g n out 0).length = 0
    · have hd' := List.eq_nil_of_length_eq_zero hd
      rw [hd'] at he
      exact absurd rfl he
    · exact live_rest E n k (k + 1) _ (.inl (by omega)) (by omega) (by omega) (by omega) ho2
end
end Go.Proofs.YthiiehanlconeaaDoor
