/-
  Discovery, plainly: what is found is closed; found again where only what was not found has gone.
  CollectSweeps, plainly: what is alive with the heap's own objects; what Sweep leaves; the same found again.
  CollectSweeps, plainly: the law's heap.
  CollectSweeps, plainly: the swept heap.
  CollectSweeps, plainly: what is read after the sweep.
  Plain lemmas over the law's heap (from CollectLives' walk).
-/
import Derived.Test.YthiiehanlconeaaLiv
import Derived.Test.YthiiehanlconeaaSwz
import Derived.Test.YthiiehanlconeaaJrr
import Derived.Test.YthiiehanlconeaaEdm
import Derived.Test.YthiiehanlconeaaGra
namespace Go.Proofs.Ythiiehanlconeaa
set_option linter.unusedVariables false

theorem addAll_mem {K l : List Nat} {y : Nat} (h : y ∈ l) : y ∈ addAll K l := by
  induction l generalizing K with
  | nil => cases h
  | cons a l ih =>
    unfold addAll at *
    rw [List.foldl_cons]
    rcases List.mem_cons.1 h with rfl | h
    · refine (addAll_prefix (addN K y) l).subset ?_
      unfold addN; split
      · assumption
      · simp
    · exact ih h
theorem pre_mem {K K' : List Nat} (h : K <+: K') {y : Nat} (hy : y ∈ K) : y ∈ K' := h.subset hy
section
variable {N : Nat} {g : Nat → List Nat} {ps : Nat → List (Nat × Nat)}
theorem drain_prefix (g : Nat → List Nat) : ∀ (f : Nat) (K : List Nat) (p : Nat), K <+: drain g f K p
  | 0, K, p => List.prefix_refl _
  | f + 1, K, p => by
    by_cases h : p < K.length
    · rw [drain_some h]; exact (addAll_prefix _ _).trans (drain_prefix g f _ _)
    · rw [drain_none (by omega)]; exact List.prefix_refl _
/-- The first p elements have been looked through. -/
def Seen2 (g : Nat → List Nat) (K : List Nat) (p : Nat) : Prop := ∀ i (h : i < K.length), i < p → ∀ y ∈ g K[i], y ∈ K
theorem seen_pre {K K' : List Nat} {p : Nat} (h : Seen2 g K p) (hp : p ≤ K.length) (hk : K <+: K') : Seen2 g K' p := by
  intro i hi hip y hy
  obtain ⟨t, rfl⟩ := hk
  rw [List.getElem_append_left (by omega)] at hy
  exact List.mem_append_left _ (h i (by omega) hip y hy)
theorem drain_closed (hg : ∀ o, o < N → ∀ y ∈ g o, y < N) : ∀ (f : Nat) (K : List Nat) (p : Nat), N - p ≤ f → Good N K → Seen2 g K p → p ≤ K.length → Seen2 g (drain g f K p) (drain g f K p).length
  | 0, K, p, hf, hK, hs, hp => by
    have := good_len N K hK
    rw [drain_none (by omega)]
    intro i hi _
    exact hs i hi (by omega)
  | f + 1, K, p, hf, hK, hs, hp => by
    by_cases h : p < K.length
    · have := good_len N K hK
      rw [drain_some h]
      refine drain_closed hg f _ (p + 1) (by omega) (hK.all (hg _ (hK.lt _ (List.getElem_mem h)))) ?_ (by have := addAll_len K (g K[p]); omega)
      intro i hi hip y hy
      by_cases e : i < p
      · exact seen_pre hs hp (addAll_prefix _ _) i hi e y hy
      · have e2 : i = p := by omega
        subst e2
        have : (addAll K (g K[i]))[i] = K[i] := by
          obtain ⟨t, ht⟩ := addAll_prefix K (g K[i])
          have hh : (addAll K (g K[i]))[i]? = K[i]? := by rw [← ht, List.getElem?_append_left h]
          rw [List.getElem?_eq_getElem hi, List.getElem?_eq_getElem h] at hh
          exact Option.some.inj hh
        rw [this] at hy
        exact addAll_mem hy
    · rw [drain_none (by omega)]
      intro i hi _
      exact hs i hi (by omega)
theorem wk_mem {l : List (Nat × Nat)} {K : List Nat} {q : Nat × Nat} (hq : q ∈ l) (h1 : q.1 ∈ K) : q.2 ∈ l.foldl wkStep K := by
  induction l generalizing K with
  | nil => cases hq
  | cons a l ih =>
    rw [List.foldl_cons]
    rcases List.mem_cons.1 hq with rfl | hq
    · refine (wkAll_prefix l _).subset ?_
      unfold wkStep
      rw [if_pos h1]
      unfold addN; split
      · assumption
      · simp
    · exact ih hq ((wkStep_prefix K a).subset h1)
structure Closed (g : Nat → List Nat) (ps : Nat → List (Nat × Nat)) (K : List Nat) : Prop where
  g : ∀ o ∈ K, ∀ y ∈ g o, y ∈ K
  w : ∀ o ∈ K, ∀ q ∈ ps o, q.1 ∈ K → q.2 ∈ K
theorem liveR_closed (hg : ∀ o, o < N → ∀ y ∈ g o, y < N) (hps : ∀ o, o < N → ∀ q ∈ ps o, q.2 < N) : ∀ (f : Nat) (K : List Nat) (p : Nat), N + 1 - p ≤ f → (p < K.length ∨ K = [] ∧ p = 0) → Good N K → Seen2 g K p → Closed g ps (liveR g ps N f K p)
  | 0, K, p, hf, hp, hK, hs => by
    have := good_len N K hK
    rcases hp with h | ⟨rfl, rfl⟩ <;> omega
  | f + 1, K, p, hf, hp, hK, hs => by
    have hpl : p ≤ K.length := by rcases hp with h | ⟨rfl, rfl⟩ <;> simp_all <;> omega
    have h1 := drain_closed hg N K p (by omega) hK hs hpl
    have h2 : Good N (drain g N K p) := Good.drain hg N p hK
    have h3 := h2.weakP hps
    have h4 := weakP_len (ps := ps) (drain g N K p)
    have h5 : drain g N K p <+: weakP ps (drain g N K p) := wkAll_prefix _ _
    have h6 := drain_len (g := g) N K p
    unfold liveR
    generalize drain g N K p = D at *
    by_cases e : (weakP ps D).length = D.length
    · rw [if_pos e]
      have e2 : weakP ps D = D := (h5.eq_of_length e.symm).symm
      rw [e2]
      refine ⟨fun o ho y hy => ?_, fun o ho q hq h => ?_⟩
      · obtain ⟨i, hi, rfl⟩ := List.mem_iff_getElem.1 ho
        exact h1 i hi hi y hy
      · have : q.2 ∈ weakP ps D := wk_mem (List.mem_flatMap.2 ⟨o, ho, hq⟩) h
        rwa [e2] at this
    · rw [if_neg e]
      have hlen := good_len N _ h3
      have hD : D.length ≠ 0 ∨ D = [] := by by_cases z : D.length = 0; exact .inr (List.eq_nil_of_length_eq_zero z); exact .inl z
      have hne : D ≠ [] := by
        rintro rfl
        exact e rfl
      have hD0 : 0 < D.length := List.length_pos_iff.2 hne
      refine liveR_closed hg hps f _ _ ?_ (.inl (by omega)) h3 (seen_pre h1 (Nat.le_refl _) h5)
      rcases hp with h | ⟨rfl, rfl⟩ <;> simp_all <;> omega
/-! ### Found again -/
variable {g' : Nat → List Nat} {ps' : Nat → List (Nat × Nat)} {L : List Nat}
theorem drain_same (hgg : ∀ o ∈ L, g' o = g o) : ∀ (f : Nat) (K : List Nat) (p : Nat), (∀ y ∈ drain g f K p, y ∈ L) → drain g' f K p = drain g f K p
  | 0, K, p, _ => rfl
  | f + 1, K, p, h => by
    by_cases hp : p < K.length
    · rw [drain_some hp] at h ⊢
      have hk : K[p] ∈ L := h _ ((drain_prefix g f _ _).subset ((addAll_prefix _ _).subset (List.getElem_mem hp)))
      rw [drain_some hp, hgg _ hk]
      exact drain_same hgg f _ _ h
    · rw [drain_none (by omega), drain_none (by omega)]
theorem wks_same : ∀ (l : List (Nat × Nat)) (K : List Nat), (∀ y ∈ l.foldl wkStep K, y ∈ L) → (l.filter fun q => decide (q.1 ∈ L)).foldl wkStep K = l.foldl wkStep K
  | [], K, _ => rfl
  | a :: l, K, h => by
    rw [List.foldl_cons] at h ⊢
    by_cases ha : a.1 ∈ L
    · rw [List.filter_cons_of_pos (by simpa using ha), List.foldl_cons]
      exact wks_same l _ h
    · rw [List.filter_cons_of_neg (by simpa using ha)]
      have hn : wkStep K a = K := by
        unfold wkStep
        rw [if_neg]
        intro hm
        exact ha (h _ ((wkAll_prefix l _).subset ((wkStep_prefix K a).subset hm)))
      rw [hn] at h ⊢
      exact wks_same l K h
theorem weak_same (hpp : ∀ o ∈ L, ps' o = (ps o).filter fun q => decide (q.1 ∈ L)) (K : List Nat) (h : ∀ y ∈ weakP ps K, y ∈ L) : weakP ps' K = weakP ps K := by
  have hK : ∀ y ∈ K, y ∈ L := fun y hy => h y ((wkAll_prefix _ _).subset hy)
  have e : ∀ M : List Nat, (∀ y ∈ M, y ∈ L) → M.flatMap ps' = (M.flatMap ps).filter fun q => decide (q.1 ∈ L) := by
    intro M
    induction M with
    | nil => intro _; rfl
    | cons a M ih =>
      intro hM
      rw [List.flatMap_cons, List.flatMap_cons, List.filter_append, hpp a (hM a (by simp)), ih fun y hy => hM y (by simp [hy])]
  unfold weakP at *
  rw [e K hK]
  exact wks_same _ _ h
theorem liveK_prefix (g : Nat → List Nat) (ps : Nat → List (Nat × Nat)) (N : Nat) : ∀ (f : Nat) (K : List Nat) (p : Nat), K <+: liveK g ps N f K p
  | 0, K, p => List.prefix_refl _
  | f + 1, K, p => by
    unfold liveK
    split
    · exact ((drain_prefix g N K p).trans (wkAll_prefix _ _)).trans (liveK_prefix g ps N f _ _)
    · exact List.prefix_refl _
theorem liveK_same (hgg : ∀ o ∈ L, g' o = g o) (hpp : ∀ o ∈ L, ps' o = (ps o).filter fun q => decide (q.1 ∈ L)) : ∀ (f : Nat) (K : List Nat) (p : Nat), (∀ y ∈ liveK g ps N f K p, y ∈ L) → liveK g' ps' N f K p = liveK g ps N f K p
  | 0, K, p, _ => rfl
  | f + 1, K, p, h => by
    unfold liveK at h ⊢
    by_cases hp : p < K.length
    · rw [if_pos hp] at h ⊢
      rw [if_pos hp]
      have h1 : ∀ y ∈ weakP ps (drain g N K p), y ∈ L := fun y hy => h y ((liveK_prefix g ps N f _ _).subset hy)
      have h2 : ∀ y ∈ drain g N K p, y ∈ L := fun y hy => h1 y ((wkAll_prefix _ _).subset hy)
      rw [drain_same hgg N K p h2, weak_same hpp _ h1]
      exact liveK_same hgg hpp f _ _ h
    · rw [if_neg hp, if_neg hp]
end
end Go.Proofs.Ythiiehanlconeaa
namespace Go.Proofs.Ythiiehanlconeaa
open Go.RowKit
set_option linter.unusedVariables false
set_option linter.unusedSimpArgs false

def noE : Int → List Int := fun _ => []
/-- The heap's own objects, in the order of the roots. -/
def sysL : List Nat := [11, 10, 0, 1, 2, 3, 4, 5, 6, 7, 8, 9]
theorem sys_good : Good 12 sysL := ⟨by decide, by decide⟩
theorem newM_slot (b s : Int) {i : Nat} (hi : i < 12) : ∃ p : Int, (newM b s).slots.getD i noSlt = ⟨true, newObj 0 p⟩ ∧ (p = 0 ∨ p = handleM b s ((0 : Nat) : Int)) := by
  rcases Nat.eq_zero_or_pos i with rfl | h
  · exact ⟨0, rfl, .inl rfl⟩
  · obtain ⟨j, rfl⟩ : ∃ j, i = j + 1 := ⟨i - 1, by omega⟩
    refine ⟨handleM b s 0, ?_, .inr rfl⟩
    show (⟨true, newObj 0 0⟩ :: List.replicate 11 (⟨true, newObj 0 (handleM b s 0)⟩ : Slt)).getD (j + 1) noSlt = _
    rw [List.getD_cons_succ, List.getD_eq_getElem?_getD, List.getElem?_replicate, if_pos (by omega)]; rfl
theorem slot_zero (hp : Hp) : slotOf hp 0 = none := by
  unfold slotOf indexM
  have h := normB_in hp.base
  rw [if_pos (show (0 : Int) < normB hp.base ∨ _ from .inl (by omega))]
  rw [if_neg (fun x => by omega)]
theorem cnt_all {hp : Hp} {Lv : List Nat} (hu : ∀ i, i < hp.slots.length → (hp.slots.getD i noSlt).used = true) (hg : Good hp.slots.length Lv) : ∀ k, k ≤ hp.slots.length → cntN hp Lv k + (Lv.filter fun x => decide (x < k)).length = k
  | 0, _ => by
    have : Lv.filter (fun x => decide (x < 0)) = [] := List.filter_eq_nil_iff.2 fun a _ => by simp
    rw [this]; rfl
  | k + 1, hk => by
    have ih := cnt_all hu hg k (by omega)
    have key : ∀ l : List Nat, l.Nodup → (l.filter fun x => decide (x < k + 1)).length = (l.filter fun x => decide (x < k)).length + if k ∈ l then 1 else 0 := by
      intro l
      induction l with
      | nil => intro _; simp
      | cons a l ih =>
        intro hn
        have hn' := List.nodup_cons.1 hn
        have := ih hn'.2
        by_cases h1 : a < k
        · rw [List.filter_cons_of_pos (by simp; omega), List.filter_cons_of_pos (by simpa using h1), List.length_cons, List.length_cons, this]
          have : ¬ k = a := by omega
          simp [this]; omega
        · by_cases h2 : a = k
          · subst h2
            rw [List.filter_cons_of_pos (by simp), List.filter_cons_of_neg (by simp), List.length_cons, this, if_neg hn'.1, if_pos (by simp)]
          · rw [List.filter_cons_of_neg (by simp; omega), List.filter_cons_of_neg (by simpa using h1), this]
            have : ¬ k = a := fun e => h2 e.symm
            simp [this]
    rw [cntN_succ, key Lv hg.nd]
    by_cases h : k ∈ Lv
    · rw [if_neg (fun x => x.2 h), if_pos h]; omega
    · rw [if_pos ⟨hu k (by omega), h⟩, if_neg h]; omega
theorem cnt_len {hp : Hp} {Lv : List Nat} (hu : ∀ i, i < hp.slots.length → (hp.slots.getD i noSlt).used = true) (hg : Good hp.slots.length Lv) : cntN hp Lv hp.slots.length + Lv.length = hp.slots.length := by
  have h := cnt_all hu hg _ (Nat.le_refl _)
  rwa [List.filter_eq_self.2 fun a ha => by simpa using hg.lt a ha] at h
/-! ### What Sweep leaves -/
section
variable {hp : Hp} {Lv : List Nat}
theorem sweep_used (hu : ∀ i, i < hp.slots.length → (hp.slots.getD i noSlt).used = true) {i : Nat} (hi : i < hp.slots.length) : ((sweepM hp Lv).slots.getD i noSlt).used = decide (i ∈ Lv) := by
  have h1 := dropN_ok hp Lv _ (Nat.le_refl _)
  have h2 := weakN_ok Lv Lv (dropN hp Lv hp.slots.length)
  show ((weakN Lv (dropN hp Lv hp.slots.length) Lv).slots.getD i noSlt).used = _
  rw [h2.used]
  by_cases h : i ∈ Lv
  · rw [h1.same i (.inr h), hu i hi]; simp [h]
  · rw [h1.gone i hi hi h]; simp [h]
theorem sweep_len : (sweepM hp Lv).slots.length = hp.slots.length := (weakN_ok Lv Lv _).len.trans (dropN_ok hp Lv _ (Nat.le_refl _)).len
theorem sweep_base : (sweepM hp Lv).base = hp.base ∧ (sweepM hp Lv).stride = hp.stride := ⟨(weakN_ok Lv Lv _).base.trans (dropN_ok hp Lv _ (Nat.le_refl _)).base, (weakN_ok Lv Lv _).stride.trans (dropN_ok hp Lv _ (Nat.le_refl _)).stride⟩
/-- A handle in a heap of which only some slots are still used. -/
theorem slot_part {h : Hp} (e1 : h.base = hp.base) (e2 : h.stride = hp.stride) (e3 : h.slots.length = hp.slots.length) (hu : ∀ i, i < hp.slots.length → (hp.slots.getD i noSlt).used = true) (e4 : ∀ i, i < hp.slots.length → (h.slots.getD i noSlt).used = decide (i ∈ Lv)) (x : Int) :
    slotOf h x = (slotOf hp x).bind fun i => if i ∈ Lv then some i else none := by
  unfold slotOf
  rw [e1, e2, e3]
  by_cases c : 0 ≤ indexM hp.base hp.stride x ∧ (indexM hp.base hp.stride x).toNat < hp.slots.length
  · rw [if_pos (show _ ∧ _ ∧ (hp.slots.getD _ noSlt).used = true from ⟨c.1, c.2, hu _ c.2⟩), e4 _ c.2]
    show _ = if (indexM hp.base hp.stride x).toNat ∈ Lv then _ else none
    by_cases h : (indexM hp.base hp.stride x).toNat ∈ Lv
    · rw [if_pos ⟨c.1, c.2, by simp [h]⟩, if_pos h]
    · rw [if_neg (fun q => by have := q.2.2; simp [h] at this), if_neg h]
  · rw [if_neg (fun q => c ⟨q.1, q.2.1⟩), if_neg (fun q => c ⟨q.1, q.2.1⟩)]; rfl
theorem drop_used (hu : ∀ i, i < hp.slots.length → (hp.slots.getD i noSlt).used = true) {i : Nat} (hi : i < hp.slots.length) : ((dropN hp Lv hp.slots.length).slots.getD i noSlt).used = decide (i ∈ Lv) := by
  have h2 := weakN_ok Lv Lv (dropN hp Lv hp.slots.length)
  rw [← h2.used]; exact sweep_used hu hi
theorem has_part {h : Hp} (e : ∀ x, slotOf h x = (slotOf hp x).bind fun i => if i ∈ Lv then some i else none) (x : Int) : hasK h Lv x = match slotOf hp x with | some i => decide (i ∈ Lv) | none => false := by
  unfold hasK
  rw [e x]
  cases slotOf hp x with
  | none => rfl
  | some i =>
    show (match (if i ∈ Lv then some i else none) with | some i => decide (i ∈ Lv) | none => false) = _
    by_cases hi : i ∈ Lv
    · rw [if_pos hi]
    · rw [if_neg hi]; simp [hi]
theorem weakD_at {h : Hp} {i : Nat} (hi : i < h.slots.length) : (weakD Lv h i).slots.getD i noSlt = if (h.slots.getD i noSlt).obj.kind = 5 then { h.slots.getD i noSlt with obj := { (h.slots.getD i noSlt).obj with data := restM (hasK h Lv) (h.slots.getD i noSlt).obj.data } } else h.slots.getD i noSlt := by
  unfold weakD
  split
  · rw [putO_getD, if_pos ⟨rfl, hi⟩]
  · rfl
theorem weakN_get : ∀ (K : List Nat) (h : Hp) (i : Nat), K.Nodup → i ∈ K → i < h.slots.length → (weakN Lv h K).slots.getD i noSlt = (weakD Lv h i).slots.getD i noSlt
  | [], h, i, _, hi, _ => by cases hi
  | a :: K, h, i, hn, hi, hl => by
    have hn' := List.nodup_cons.1 hn
    show (weakN Lv (weakD Lv h a) K).slots.getD i noSlt = _
    have hw := weakD_ok Lv h a
    by_cases e : i = a
    · subst e
      exact (weakN_ok Lv K _).same i hn'.1
    · have hk : i ∈ K := (List.mem_cons.1 hi).resolve_left e
      have hl' : i < (weakD Lv h a).slots.length := by rw [hw.len]; exact hl
      rw [weakN_get K _ i hn'.2 hk hl', weakD_at hl', weakD_at hl, hw.same i (by simpa using e), hasK_eq hw.base hw.stride hw.len hw.used]
theorem sweep_obj (hn : Lv.Nodup) {i : Nat} (hm : i ∈ Lv) (hi : i < hp.slots.length) : ((sweepM hp Lv).slots.getD i noSlt).obj = if (hp.slots.getD i noSlt).obj.kind = 5 then { (hp.slots.getD i noSlt).obj with data := restM (hasK (dropN hp Lv hp.slots.length) Lv) (hp.slots.getD i noSlt).obj.data } else (hp.slots.getD i noSlt).obj := by
  have h1 := dropN_ok hp Lv _ (Nat.le_refl _)
  show ((weakN Lv (dropN hp Lv hp.slots.length) Lv).slots.getD i noSlt).obj = _
  rw [weakN_get Lv _ i hn hm (by rw [h1.len]; exact hi), weakD_at (by rw [h1.len]; exact hi), h1.same i (.inr hm)]
  split <;> rfl
end
end Go.Proofs.Ythiiehanlconeaa
namespace Go.Proofs.Ythiiehanlconeaa
open Go.RowKit
set_option linter.unusedVariables false
set_option linter.unusedSimpArgs false

def rootsS (hp : Hp) (L : List Int) (zs : List Nat) : List Int := ([hp.global, hp.texts] ++ hp.protos) ++ handlesM L zs
/-- What is alive. -/
def liveX (n : Nat) (xs : List RObj) (zs : List Nat) : List Nat := liveR (gR xs []) (psR xs) n (n + 1) (addAll [] (zs.map (· % n))) 0
def liveS (n : Nat) (xs : List RObj) (zs : List Nat) : List Nat := sysL ++ (liveX n xs zs).map (12 + ·)
theorem filterMap_sub {f f' : Int → Option Nat} {Lv : List Nat} (e : ∀ x, f' x = (f x).bind fun i => if i ∈ Lv then some i else none) : ∀ l : List Int, (∀ y ∈ l.filterMap f, y ∈ Lv) → l.filterMap f' = l.filterMap f
  | [], _ => rfl
  | a :: l, h => by
    cases ha : f a with
    | none =>
      have h2 : f' a = none := by rw [e, ha]; rfl
      rw [List.filterMap_cons_none ha] at h ⊢
      rw [List.filterMap_cons_none h2, filterMap_sub e l h]
    | some i =>
      rw [List.filterMap_cons_some ha] at h ⊢
      have hi : i ∈ Lv := h i (by simp)
      have h2 : f' a = some i := by rw [e, ha]; show (if i ∈ Lv then some i else none) = _; rw [if_pos hi]
      rw [List.filterMap_cons_some h2, filterMap_sub e l fun y hy => h y (by simp [hy])]
section
variable {n m : Nat} {b s : Int} {L : List Int} {hp : Hp} {xs : List RObj} {zs : List Nat}
theorem GI.useds (G : GI n b s L hp xs 6 m) : ∀ i, i < hp.slots.length → (hp.slots.getD i noSlt).used = true := fun i hi => by rw [getD_get hi]; exact G.ok.used i hi
theorem GI.sysSlot (G : GI n b s L hp xs 6 m) {i : Nat} (hi : i < 12) : slotOf hp (handleM b s ((i : Nat) : Int)) = some i := by
  have h := slotOf_handle (hp := hp) (s := i) (by rw [G.ok.slots]; omega) (G.useds i (by rw [G.ok.slots]; omega)) (by rw [G.ok.slots]; have := G.ok.few; omega)
  rwa [G.base, G.stride] at h
theorem GI.sysObj (G : GI n b s L hp xs 6 m) {i : Nat} (hi : i < 12) : ∃ p : Int, hp.slots.getD i noSlt = ⟨true, newObj 0 p⟩ ∧ (p = 0 ∨ p = handleM b s ((0 : Nat) : Int)) := by
  rw [G.old i hi]; exact newM_slot b s hi
theorem GI.sysRefs (G : GI n b s L hp xs 6 m) {i : Nat} (hi : i < 12) : ∀ y ∈ (refsM (hp.slots.getD i noSlt).obj).filterMap (slotOf hp), y = 0 := by
  obtain ⟨p, e, hp0⟩ := G.sysObj hi
  rw [e, refsM_new]
  intro y hy
  obtain ⟨r, hr, hs⟩ := List.mem_filterMap.1 hy
  have : r ∈ [p] := (List.mem_filter.1 hr).1
  rw [List.mem_singleton.1 this] at hs
  rcases hp0 with rfl | rfl
  · rw [slot_zero] at hs; cases hs
  · rw [G.sysSlot (by omega)] at hs
    exact (Option.some.inj hs).symm
theorem GI.embS (G : GI n b s L hp xs 6 m) : Emb 12 n sysL (gR xs []) (gP hp noE) (psR xs) (psP hp) := by
  have E := G.emb (em := noE) (more := []) (fun j hj => by simp [noE]) (fun j y hy => by simp at hy)
  have lt : ∀ i ∈ sysL, i < 12 := sys_good.lt
  refine ⟨sys_good, fun i hi y hy => ?_, fun i hi => ?_, E.gs, E.pss, E.glt, E.plt⟩
  · unfold gP noE at hy
    rw [List.append_nil] at hy
    rw [G.sysRefs (lt i hi) y hy]; decide
  · unfold psP
    obtain ⟨p, e, -⟩ := G.sysObj (lt i hi)
    rw [e, if_neg (by show ¬ (0 : Int) = 5; omega)]
theorem GI.rootsAll (G : GI n b s L hp xs 6 m) (hL : L.length = n) (zs : List Nat) : (rootsS hp L zs).filterMap (slotOf hp) = [11, 10, 0, 1, 2, 2, 3, 4, 5, 6, 7, 8, 9] ++ (zs.map (· % n)).map (12 + ·) := by
  have hh : handlesM L zs = (zs.map (· % n)).map (hOf b s) := by
    unfold handlesM
    rw [List.map_map]
    refine List.map_congr_left fun z _ => ?_
    rw [hL, G.handle (Nat.mod_lt _ G.ok.pos)]
    rfl
  have hz : ∀ y ∈ zs.map (· % n), y < n := fun y hy => by
    obtain ⟨z, -, rfl⟩ := List.mem_map.1 hy
    exact Nat.mod_lt _ G.ok.pos
  obtain ⟨e1, e2, e3, -⟩ := G.sys
  unfold rootsS
  rw [List.filterMap_append, hh, G.slots _ hz, e1, e2, e3]
  congr 1
  have k : ∀ i, i < 12 → slotOf hp (handleM b s ((i : Nat) : Int)) = some i := fun i hi => G.sysSlot hi
  show ([handleM b s ((11 : Nat) : Int), handleM b s ((10 : Nat) : Int), handleM b s ((0 : Nat) : Int), handleM b s ((1 : Nat) : Int), handleM b s ((2 : Nat) : Int), handleM b s ((2 : Nat) : Int), handleM b s ((3 : Nat) : Int), handleM b s ((4 : Nat) : Int), handleM b s ((5 : Nat) : Int), handleM b s ((6 : Nat) : Int), handleM b s ((7 : Nat) : Int), 0, handleM b s ((8 : Nat) : Int), handleM b s ((9 : Nat) : Int)] : List Int).filterMap (slotOf hp) = _
  simp only [List.filterMap_cons, List.filterMap_nil, k 11 (by omega), k 10 (by omega), k 0 (by omega), k 1 (by omega), k 2 (by omega), k 3 (by omega), k 4 (by omega), k 5 (by omega), k 6 (by omega), k 7 (by omega), k 8 (by omega), k 9 (by omega), slot_zero]
theorem GI.xGood (G : GI n b s L hp xs 6 m) (zs : List Nat) : Good n (liveX n xs zs) ∧ Closed (gR xs []) (psR xs) (liveX n xs zs) := by
  have E := G.embS
  have hz : ∀ y ∈ zs.map (· % n), y < n := fun y hy => by
    obtain ⟨z, -, rfl⟩ := List.mem_map.1 hy
    exact Nat.mod_lt _ G.ok.pos
  have hg : Good n (addAll [] (zs.map (· % n))) := (Good.nil n).all hz
  refine ⟨Good.liveR E.glt E.plt _ _ hg, liveR_closed E.glt E.plt (n + 1) _ 0 (by omega) ?_ hg (fun i h h0 => by omega)⟩
  by_cases h : addAll [] (zs.map (· % n)) = []
  · exact .inr ⟨h, rfl⟩
  · exact .inl (List.length_pos_iff.2 h)
theorem GI.liveAll (G : GI n b s L hp xs 6 m) (hL : L.length = n) (zs : List Nat) : liveM hp noE hp.slots.length hp.slots.length (addsK hp [] (rootsS hp L zs)) 0 = liveS n xs zs := by
  have E := G.embS
  have hz : ∀ y ∈ zs.map (· % n), y < n := fun y hy => by
    obtain ⟨z, -, rfl⟩ := List.mem_map.1 hy
    exact Nat.mod_lt _ G.ok.pos
  have hg : Good n (addAll [] (zs.map (· % n))) := (Good.nil n).all hz
  have h1 := emb_all (c := 12) (S := sysL) sys_good (zs.map (· % n)) []
  have e0 : Go.Proofs.Ythiiehanlconeaa.emb 12 sysL [] = sysL := by unfold Go.Proofs.Ythiiehanlconeaa.emb; simp
  rw [e0] at h1
  rw [liveM_eq, addsK_eq, G.rootsAll hL, addAll_append, show addAll [] [11, 10, 0, 1, 2, 2, 3, 4, 5, 6, 7, 8, 9] = sysL from by decide, h1, live_emb E (by rw [G.ok.slots]; omega) hg]
  rfl
theorem GI.sGood (G : GI n b s L hp xs 6 m) (zs : List Nat) : KOk hp (liveS n xs zs) := by
  obtain ⟨h1, -⟩ := G.xGood zs
  have hl := G.ok.slots
  refine ⟨⟨List.nodup_append.2 ⟨sys_good.nd, ?_, fun a ha c hc e => ?_⟩, fun i hi => ?_⟩, fun i hi => ?_⟩
  · exact List.Pairwise.map _ (fun a c h e => h (by have : 12 + a = 12 + c := e; omega)) h1.nd
  · obtain ⟨j, -, rfl⟩ := List.mem_map.1 hc
    have := sys_good.lt a ha; omega
  · rw [hl]
    rcases List.mem_append.1 hi with h | h
    · have := sys_good.lt i h; omega
    · obtain ⟨j, hj, rfl⟩ := List.mem_map.1 h
      have := h1.lt j hj; omega
  · have hlt : i < hp.slots.length := by
      rw [hl]
      rcases List.mem_append.1 hi with h | h
      · have := sys_good.lt i h; omega
      · obtain ⟨j, hj, rfl⟩ := List.mem_map.1 h
        have := h1.lt j hj; omega
    exact G.useds i hlt
theorem mem_liveS {j : Nat} : 12 + j ∈ liveS n xs zs ↔ j ∈ liveX n xs zs := by
  unfold liveS
  rw [List.mem_append, List.mem_map]
  constructor
  · rintro (h | ⟨a, ha, e⟩)
    · have := sys_good.lt _ h; omega
    · have : a = j := by omega
      rwa [this] at ha
  · exact fun h => .inr ⟨j, h, rfl⟩
theorem GI.swSlot (G : GI n b s L hp xs 6 m) (zs : List Nat) (x : Int) : slotOf (sweepM hp (liveS n xs zs)) x = (slotOf hp x).bind fun i => if i ∈ liveS n xs zs then some i else none :=
  slot_part sweep_base.1 sweep_base.2 sweep_len G.useds (fun i hi => sweep_used G.useds hi) x
theorem GI.drSlot (G : GI n b s L hp xs 6 m) (zs : List Nat) (x : Int) : slotOf (dropN hp (liveS n xs zs) hp.slots.length) x = (slotOf hp x).bind fun i => if i ∈ liveS n xs zs then some i else none :=
  have h := dropN_ok hp (liveS n xs zs) _ (Nat.le_refl _)
  slot_part h.base h.stride h.len G.useds (fun i hi => drop_used G.useds hi) x
/-- The weak entries of an object that is alive. -/
def keptW (X : List Nat) (x : RObj) : List (Nat × Nat) := (x.keys.zip x.vals).filter fun q => decide (q.1 ∈ X)
theorem GI.swObj (G : GI n b s L hp xs 6 m) (zs : List Nat) {j : Nat} (hj : j < n) (hm : j ∈ liveX n xs zs) : refsM ((sweepM hp (liveS n xs zs)).slots.getD (12 + j) noSlt).obj = refsM (hp.slots.getD (12 + j) noSlt).obj ∧ ((sweepM hp (liveS n xs zs)).slots.getD (12 + j) noSlt).obj.kind = (hp.slots.getD (12 + j) noSlt).obj.kind ∧
    ((xs.getD j noR).weak = true → ((sweepM hp (liveS n xs zs)).slots.getD (12 + j) noSlt).obj.data = (keptW (liveX n xs zs) (xs.getD j noR)).flatMap fun q => [refV (hOf b s q.1), refV (hOf b s q.2)]) := by
  have hl : 12 + j < hp.slots.length := by rw [G.ok.slots]; omega
  have J := G.jo j hj
  rw [sweep_obj (G.sGood zs).good.nd (mem_liveS.2 hm) hl]
  by_cases hk : (hp.slots.getD (12 + j) noSlt).obj.kind = 5
  · rw [if_pos hk]
    refine ⟨?_, rfl, fun hw => ?_⟩
    · unfold refsM refsL
      simp only [hk, if_true]
    · show restM _ _ = _
      rw [J.data hw]
      unfold restM keptW
      rw [pairs_flat (fun q : Nat × Nat => refV (hOf b s q.1)) (fun q => refV (hOf b s q.2)), List.flatMap_map]
      have : ∀ l : List (Nat × Nat), (∀ q ∈ l, q.1 < n) → l.flatMap (fun q => if (refV (hOf b s q.1)).kind = 5 ∧ hasK (dropN hp (liveS n xs zs) hp.slots.length) (liveS n xs zs) (refV (hOf b s q.1)).ref = true then [refV (hOf b s q.1), refV (hOf b s q.2)] else []) = (l.filter fun q => decide (q.1 ∈ liveX n xs zs)).flatMap fun q => [refV (hOf b s q.1), refV (hOf b s q.2)] := by
        intro l
        induction l with
        | nil => intro _; rfl
        | cons a l ih =>
          intro h
          have ha := h a (by simp)
          have hs : hasK (dropN hp (liveS n xs zs) hp.slots.length) (liveS n xs zs) (hOf b s a.1) = decide (a.1 ∈ liveX n xs zs) := by
            rw [has_part (G.drSlot zs), G.slot ha]
            show decide (12 + a.1 ∈ liveS n xs zs) = _
            simp only [mem_liveS]
          rw [List.flatMap_cons, ih fun q hq => h q (by simp [hq])]
          show (if (5 : Int) = 5 ∧ hasK (dropN hp (liveS n xs zs) hp.slots.length) (liveS n xs zs) (hOf b s a.1) = true then _ else _) ++ _ = _
          rw [hs]
          by_cases hx : a.1 ∈ liveX n xs zs
          · rw [if_pos ⟨rfl, by simpa using hx⟩, List.filter_cons_of_pos (by simpa using hx), List.flatMap_cons]
          · rw [if_neg (fun e => hx (by simpa using e.2)), List.filter_cons_of_neg (by simpa using hx)]; rfl
      exact this _ fun q hq => J.key _ (List.of_mem_zip hq).1
  · rw [if_neg hk]
    exact ⟨rfl, rfl, fun hw => absurd (of_decide_eq_true (by rw [J.weak] at hw; exact hw)) hk⟩
end
end Go.Proofs.Ythiiehanlconeaa
namespace Go.Proofs.Ythiiehanlconeaa
open Go.RowKit
set_option linter.unusedVariables false
set_option linter.unusedSimpArgs false

theorem rest_mem {hs : Int → Bool} {d : List Val} {v : Val} (h : v ∈ restM hs d) : v ∈ d := by
  unfold restM at h
  obtain ⟨p, hp, hv⟩ := List.mem_flatMap.1 h
  unfold pairsM at hp
  obtain ⟨q, hq, rfl⟩ := List.mem_map.1 hp
  have hq := List.mem_range.1 hq
  split at hv
  · have g : ∀ i, i < d.length → d.getD i noVal ∈ d := fun i hi => by rw [List.getD_eq_getElem?_getD, List.getElem?_eq_getElem hi]; exact List.getElem_mem hi
    simp only [List.mem_cons, List.not_mem_nil, or_false] at hv
    rcases hv with rfl | rfl
    · exact g _ (by omega)
    · exact g _ (by omega)
  · cases hv
theorem restM_len (hs : Int → Bool) (d : List Val) : (restM hs d).length ≤ d.length := by
  have h := rest_len (hs := hs) (pairsM d)
  have h2 : (pairsM d).length = d.length / 2 := by unfold pairsM; simp
  unfold restM
  omega
section
variable {n m : Nat} {b s : Int} {L : List Int} {hp : Hp} {xs : List RObj} {zs : List Nat}
theorem GI.inSys (G : GI n b s L hp xs 6 m) (zs : List Nat) {i : Nat} (hi : i ∈ liveS n xs zs) : i ∈ sysL ∨ ∃ j, j < n ∧ j ∈ liveX n xs zs ∧ i = 12 + j := by
  unfold liveS at hi
  rcases List.mem_append.1 hi with h | h
  · exact .inl h
  · obtain ⟨j, hj, rfl⟩ := List.mem_map.1 h
    exact .inr ⟨j, (G.xGood zs).1.lt j hj, hj, rfl⟩
theorem GI.swSys (G : GI n b s L hp xs 6 m) (zs : List Nat) {i : Nat} (hi : i ∈ sysL) : ((sweepM hp (liveS n xs zs)).slots.getD i noSlt).obj = (hp.slots.getD i noSlt).obj ∧ (hp.slots.getD i noSlt).obj.kind = 0 := by
  have h12 := sys_good.lt i hi
  obtain ⟨p, e, -⟩ := G.sysObj h12
  rw [sweep_obj (G.sGood zs).good.nd (List.mem_append_left _ hi) (by rw [G.ok.slots]; omega), e]
  exact ⟨if_neg (by show ¬ (0 : Int) = 5; omega), rfl⟩
theorem GI.gSame (G : GI n b s L hp xs 6 m) (zs : List Nat) : ∀ o ∈ liveS n xs zs, gP (sweepM hp (liveS n xs zs)) noE o = gP hp noE o := fun o ho => by
  have E := G.embS
  have hin : ∀ y ∈ gP hp noE o, y ∈ liveS n xs zs := fun y hy => by
    rcases G.inSys zs ho with h | ⟨j, hj, hx, rfl⟩
    · exact List.mem_append_left _ (E.own o h y hy)
    · rw [E.gs j hj] at hy
      obtain ⟨z, hz, rfl⟩ := List.mem_map.1 hy
      exact mem_liveS.2 ((G.xGood zs).2.g j hx z hz)
  have hr : refsM ((sweepM hp (liveS n xs zs)).slots.getD o noSlt).obj = refsM (hp.slots.getD o noSlt).obj := by
    rcases G.inSys zs ho with h | ⟨j, hj, hx, rfl⟩
    · rw [(G.swSys zs h).1]
    · exact (G.swObj zs hj hx).1
  unfold gP noE at hin ⊢
  rw [List.append_nil] at hin ⊢
  rw [List.append_nil, hr]
  exact filterMap_sub (G.swSlot zs) _ hin
theorem GI.pSame (G : GI n b s L hp xs 6 m) (zs : List Nat) : ∀ o ∈ liveS n xs zs, psP (sweepM hp (liveS n xs zs)) o = (psP hp o).filter fun q => decide (q.1 ∈ liveS n xs zs) := fun o ho => by
  have E := G.embS
  rcases G.inSys zs ho with h | ⟨j, hj, hx, rfl⟩
  · obtain ⟨e1, e2⟩ := G.swSys zs h
    unfold psP
    rw [e1, e2, if_neg (by omega), if_neg (by omega)]; rfl
  · obtain ⟨-, e2, e3⟩ := G.swObj zs hj hx
    have J := G.jo j hj
    rw [E.pss j hj]
    unfold psP
    rw [e2]
    by_cases hk : (hp.slots.getD (12 + j) noSlt).obj.kind = 5
    · have hw : (xs.getD j noR).weak = true := by rw [J.weak]; exact decide_eq_true hk
      rw [if_pos hk, e3 hw, pairs_flat (fun q : Nat × Nat => refV (hOf b s q.1)) (fun q => refV (hOf b s q.2))]
      unfold psR keptW
      rw [if_pos hw]
      have hcl := (G.xGood zs).2.w j hx
      unfold psR at hcl
      rw [if_pos hw] at hcl
      have : ∀ l : List (Nat × Nat), (∀ q ∈ l, q.1 < n ∧ q.2 < n ∧ (q.1 ∈ liveX n xs zs → q.2 ∈ liveX n xs zs)) → ((l.filter fun q => decide (q.1 ∈ liveX n xs zs)).map fun q => (refV (hOf b s q.1), refV (hOf b s q.2))).filterMap (pairS (sweepM hp (liveS n xs zs))) = (l.map fun p => (12 + p.1, 12 + p.2)).filter fun q => decide (q.1 ∈ liveS n xs zs) := by
        intro l
        induction l with
        | nil => intro _; rfl
        | cons a l ih =>
          intro h
          obtain ⟨h1, h2, h3⟩ := h a (by simp)
          have ih' := ih fun q hq => h q (by simp [hq])
          by_cases hx : a.1 ∈ liveX n xs zs
          · have hp1 : pairS (sweepM hp (liveS n xs zs)) (refV (hOf b s a.1), refV (hOf b s a.2)) = some (12 + a.1, 12 + a.2) := by
              unfold pairS
              rw [if_pos ⟨rfl, rfl⟩]
              have k1 : slotOf (sweepM hp (liveS n xs zs)) (hOf b s a.1) = some (12 + a.1) := by rw [G.swSlot, G.slot h1]; show (if _ then _ else _) = _; rw [if_pos (mem_liveS.2 hx)]
              have k2 : slotOf (sweepM hp (liveS n xs zs)) (hOf b s a.2) = some (12 + a.2) := by rw [G.swSlot, G.slot h2]; show (if _ then _ else _) = _; rw [if_pos (mem_liveS.2 (h3 hx))]
              simp only [refV, k1, k2]
            rw [List.filter_cons_of_pos (by simpa using hx), List.map_cons, List.filterMap_cons_some hp1, ih', List.map_cons, List.filter_cons_of_pos (by simpa using mem_liveS.2 hx)]
          · rw [List.filter_cons_of_neg (by simpa using hx), ih', List.map_cons, List.filter_cons_of_neg (by simpa using fun e => hx (mem_liveS.1 e))]
      exact this _ fun q hq => ⟨J.key _ (List.of_mem_zip hq).1, J.val _ (List.of_mem_zip hq).2, hcl q hq⟩
    · have hw : ¬ (xs.getD j noR).weak = true := by rw [J.weak]; simpa using hk
      rw [if_neg hk]
      unfold psR
      rw [if_neg hw]; rfl
/-- The same is found again. -/
theorem GI.again (G : GI n b s L hp xs 6 m) (hL : L.length = n) (zs : List Nat) : liveM (sweepM hp (liveS n xs zs)) noE (sweepM hp (liveS n xs zs)).slots.length (sweepM hp (liveS n xs zs)).slots.length (addsK (sweepM hp (liveS n xs zs)) [] (rootsS hp L zs)) 0 = liveS n xs zs := by
  have h0 := G.liveAll hL zs
  rw [liveM_eq, addsK_eq] at h0
  have hr : (rootsS hp L zs).filterMap (slotOf (sweepM hp (liveS n xs zs))) = (rootsS hp L zs).filterMap (slotOf hp) := filterMap_sub (G.swSlot zs) _ fun y hy => by
    rw [← h0]
    exact (liveK_prefix _ _ _ _ _ _).subset (addAll_mem hy)
  rw [liveM_eq, addsK_eq, hr, sweep_len, liveK_same (G.gSame zs) (G.pSame zs) _ _ _ (fun y hy => by rw [h0] at hy; exact hy)]
  exact h0
theorem GI.swOk (G : GI n b s L hp xs 6 m) (hm : m ≤ 500) (zs : List Nat) : HpOk (sweepM hp (liveS n xs zs)) := by
  have H := G.hpOk hm
  have hl := sweep_len (hp := hp) (Lv := liveS n xs zs)
  have key : ∀ i (hi : i < (sweepM hp (liveS n xs zs)).slots.length), (sweepM hp (liveS n xs zs)).slots[i].obj = noSlt.obj ∨ ∃ hi2 : i < hp.slots.length, refsM (sweepM hp (liveS n xs zs)).slots[i].obj = refsM hp.slots[i].obj ∧ ((sweepM hp (liveS n xs zs)).slots[i].obj = hp.slots[i].obj ∨ (sweepM hp (liveS n xs zs)).slots[i].obj = { hp.slots[i].obj with data := restM (hasK (dropN hp (liveS n xs zs) hp.slots.length) (liveS n xs zs)) hp.slots[i].obj.data }) := fun i hi => by
    have hi2 : i < hp.slots.length := by rw [← hl]; exact hi
    have e0 : (sweepM hp (liveS n xs zs)).slots[i] = (sweepM hp (liveS n xs zs)).slots.getD i noSlt := (getD_get hi).symm
    by_cases hm : i ∈ liveS n xs zs
    · refine .inr ⟨hi2, ?_, ?_⟩
      · rw [e0]
        rcases G.inSys zs hm with h | ⟨j, hj, hx, rfl⟩
        · rw [(G.swSys zs h).1, getD_get hi2]
        · rw [(G.swObj zs hj hx).1, getD_get hi2]
      · rw [e0, sweep_obj (G.sGood zs).good.nd hm hi2, getD_get hi2]
        split
        · exact .inr rfl
        · exact .inl rfl
    · refine .inl ?_
      rw [e0]
      have h1 := dropN_ok hp (liveS n xs zs) _ (Nat.le_refl _)
      have h2 := weakN_ok (liveS n xs zs) (liveS n xs zs) (dropN hp (liveS n xs zs) hp.slots.length)
      show ((weakN (liveS n xs zs) (dropN hp (liveS n xs zs) hp.slots.length) (liveS n xs zs)).slots.getD i noSlt).obj = _
      rw [h2.same i hm, h1.zero i hi2 hi2 hm (G.useds i hi2)]
  refine ⟨by rw [hl]; exact H.few, fun i hi => ?_, fun i hi r hr => ?_, fun i hi v hv => ?_⟩
  · rcases key i hi with e | ⟨hi2, -, e | e⟩
    · rw [e]; exact ⟨by simp [noSlt], by simp [noSlt], by simp [noSlt], by simp [noSlt], fun f hf => by simp [noSlt] at hf⟩
    · rw [e]; exact H.obj i hi2
    · rw [e]
      have q := H.obj i hi2
      exact ⟨q.props, q.elems, Nat.le_trans (restM_len _ _) q.data, q.saved, q.each⟩
  · rcases key i hi with e | ⟨hi2, e, -⟩
    · rw [e] at hr
      exact absurd hr (by simp [noSlt, refsM, refsL, nz, refsV, framesM])
    · rw [e] at hr; exact H.refs i hi2 r hr
  · rcases key i hi with e | ⟨hi2, -, e | e⟩
    · rw [e] at hv; simp [noSlt] at hv
    · rw [e] at hv; exact H.data i hi2 v hv
    · rw [e] at hv
      exact H.data i hi2 v (rest_mem hv)
theorem GI.swLive (G : GI n b s L hp xs 6 m) (zs : List Nat) : (sweepM hp (liveS n xs zs)).live = ((liveS n xs zs).length : Int) ∧ ((cntN hp (liveS n xs zs) hp.slots.length : Nat) : Int) = ((12 + n : Nat) : Int) - ((liveS n xs zs).length : Int) := by
  have h1 := dropN_ok hp (liveS n xs zs) _ (Nat.le_refl _)
  have h2 := weakN_ok (liveS n xs zs) (liveS n xs zs) (dropN hp (liveS n xs zs) hp.slots.length)
  have hc := cnt_len G.useds (G.sGood zs).good
  obtain ⟨-, -, -, -, e⟩ := G.sys
  have hsl := G.ok.slots
  rw [hsl] at hc h1
  refine ⟨?_, by rw [hsl]; omega⟩
  show (weakN _ (dropN hp (liveS n xs zs) hp.slots.length) _).live = _
  rw [h2.live, hsl, h1.live, e]
  omega
end
end Go.Proofs.Ythiiehanlconeaa
namespace Go.Proofs.Ythiiehanlconeaa
open Go.RowKit
set_option linter.unusedVariables false
set_option linter.unusedSimpArgs false

section
variable {n m : Nat} {b s : Int} {L : List Int} {hp : Hp} {xs : List RObj} {zs : List Nat}
theorem GI.swGet (G : GI n b s L hp xs 6 m) (zs : List Nat) {j : Nat} (hj : j < n) : (slotOf (sweepM hp (liveS n xs zs)) (hOf b s j)).isSome = decide (j ∈ liveX n xs zs) ∧
    (j ∈ liveX n xs zs → (xs.getD j noR).weak = true → (getO (sweepM hp (liveS n xs zs)) (hOf b s j)).data = (keptW (liveX n xs zs) (xs.getD j noR)).flatMap fun q => [refV (hOf b s q.1), refV (hOf b s q.2)]) := by
  have e : slotOf (sweepM hp (liveS n xs zs)) (hOf b s j) = if 12 + j ∈ liveS n xs zs then some (12 + j) else none := by rw [G.swSlot, G.slot hj]; rfl
  refine ⟨?_, fun hx hw => ?_⟩
  · rw [e]
    by_cases h : j ∈ liveX n xs zs
    · rw [if_pos (mem_liveS.2 h)]; simp [h]
    · rw [if_neg fun q => h (mem_liveS.1 q)]; simp [h]
  · rw [if_pos (mem_liveS.2 hx)] at e
    unfold getO
    rw [e]
    exact (G.swObj zs hj hx).2.2 hw
end
/-- How many of the first entries are kept. -/
def keptN (X : List Nat) (x : RObj) (j : Nat) : Nat := (((x.keys.zip x.vals).take j).filter fun q => decide (q.1 ∈ X)).length
theorem keptN_zero (X : List Nat) (x : RObj) : keptN X x 0 = 0 := rfl
theorem keptN_le (X : List Nat) (x : RObj) (j : Nat) : keptN X x j ≤ j := by
  unfold keptN
  refine Nat.le_trans (List.length_filter_le _ _) ?_
  rw [List.length_take]; omega
theorem keptN_all (X : List Nat) (x : RObj) (h : x.keys.length = x.vals.length) : keptN X x x.keys.length = (keptW X x).length := by
  unfold keptN keptW
  rw [List.take_of_length_le (by rw [List.length_zip]; omega)]
theorem kept_get {X : List Nat} {x : RObj} {j : Nat} (h : x.keys.length = x.vals.length) (hj : j < x.keys.length) (hv : j < x.vals.length) :
    (x.keys[j] ∉ X → keptN X x (j + 1) = keptN X x j) ∧ (x.keys[j] ∈ X → keptN X x (j + 1) = keptN X x j + 1 ∧ keptN X x j < (keptW X x).length ∧ (keptW X x)[keptN X x j]? = some (x.keys[j], x.vals[j])) := by
  have hz : j < (x.keys.zip x.vals).length := by rw [List.length_zip]; omega
  have hs : (x.keys.zip x.vals)[j] = (x.keys[j], x.vals[j]) := List.getElem_zip
  have ht : (x.keys.zip x.vals).take (j + 1) = (x.keys.zip x.vals).take j ++ [(x.keys[j], x.vals[j])] := by rw [List.take_succ_eq_append_getElem hz, hs]
  refine ⟨fun hx => ?_, fun hx => ?_⟩
  · unfold keptN
    rw [ht, List.filter_append, List.filter_cons_of_neg (by simpa using hx), List.filter_nil, List.append_nil]
  · have hd : keptW X x = ((x.keys.zip x.vals).take j).filter (fun q => decide (q.1 ∈ X)) ++ ((x.keys[j], x.vals[j]) :: ((x.keys.zip x.vals).drop (j + 1)).filter fun q => decide (q.1 ∈ X)) := by
      unfold keptW
      conv => lhs; rw [← List.take_append_drop j (x.keys.zip x.vals)]
      rw [List.drop_eq_getElem_cons hz, hs, List.filter_append, List.filter_cons_of_pos (by simpa using hx)]
    refine ⟨?_, ?_, ?_⟩
    · unfold keptN
      rw [ht, List.filter_append, List.filter_cons_of_pos (by simpa using hx), List.filter_nil, List.length_append]; rfl
    · rw [hd, List.length_append]; unfold keptN; simp
    · rw [hd]; unfold keptN
      rw [List.getElem?_append_right (Nat.le_refl _), Nat.sub_self]; rfl
theorem pair_len {α : Type} (f g : α → Val) : ∀ l : List α, (l.flatMap fun q => [f q, g q]).length = 2 * l.length
  | [] => rfl
  | a :: l => by rw [List.flatMap_cons, List.length_append, pair_len f g l]; simp; omega
theorem pair_get {α : Type} (f g : α → Val) : ∀ (l : List α) (k : Nat) (q : α), l[k]? = some q → (l.flatMap fun q => [f q, g q])[2 * k]? = some (f q) ∧ (l.flatMap fun q => [f q, g q])[2 * k + 1]? = some (g q)
  | [], k, q, h => by simp at h
  | a :: l, 0, q, h => by
    rw [List.getElem?_cons_zero] at h
    cases h
    exact ⟨rfl, rfl⟩
  | a :: l, k + 1, q, h => by
    rw [List.getElem?_cons_succ] at h
    obtain ⟨h1, h2⟩ := pair_get f g l k q h
    rw [List.flatMap_cons]
    have e1 : 2 * (k + 1) = 2 * k + 1 + 1 := by omega
    exact ⟨by rw [e1]; exact h1, by rw [e1]; exact h2⟩
end Go.Proofs.Ythiiehanlconeaa
namespace Go.Proofs.Ythiiehanlconeaa
open Go.RowKit
set_option linter.unusedVariables false
set_option linter.unusedSimpArgs false

theorem fm_congr {α β : Type} {f g : α → List β} : ∀ l : List α, (∀ x ∈ l, f x = g x) → l.flatMap f = l.flatMap g
  | [], _ => rfl
  | a :: l, h => by rw [List.flatMap_cons, List.flatMap_cons, h a (by simp), fm_congr l fun x hx => h x (by simp [hx])]
theorem flatMap_pick {α : Type} (X : List α) (j : Nat) : ∀ n, (List.range n).flatMap (fun i => if i = j then X else []) = if j < n then X else []
  | 0 => rfl
  | n + 1 => by
    rw [List.range_succ, List.flatMap_append, flatMap_pick X j n]
    by_cases h1 : j < n
    · rw [if_pos h1, if_pos (by omega)]
      simp [show ¬ n = j by omega]
    · by_cases h2 : n = j
      · subst h2; simp
      · rw [if_neg h1, if_neg (by omega)]
        simp [h2]
section
variable {n p m : Nat} {b s : Int} {L : List Int} {hp : Hp} {xs : List RObj} {more : List (List Nat)}
theorem GI.inj (G : GI n b s L hp xs p m) {i j : Nat} (hi : i < n) (hj : j < n) (e : hOf b s i = hOf b s j) : i = j := by
  have h1 := G.slot hi
  have h2 := G.slot hj
  rw [e, h2] at h1
  have := Option.some.inj h1
  omega
theorem GI.len (G : GI n b s L hp xs p m) : L.length = n := by rw [G.ok.L]; simp
theorem GI.inI (G : GI n b s L hp xs p m) (y : Nat) : InI (L.getD y 0) := by
  by_cases h : y < n
  · rw [G.handle h]; exact (G.pos y h).2
  · rw [List.getD_eq_getElem?_getD, List.getElem?_eq_none (by rw [G.len]; omega)]; unfold InI; simp
theorem GI.em (G : GI n b s L hp xs p m) (hm : MoreOk n 10 more) {j : Nat} (hj : j < n) : emM L more (hOf b s j) = (more.getD j []).map (hOf b s) := by
  have hmj : j < more.length := by rw [hm.len]; exact hj
  have e1 : (more.getD j []).map (fun y => L.getD y 0) = (more.getD j []).map (hOf b s) := by
    refine List.map_congr_left fun y hy => ?_
    rw [getD_get hmj] at hy
    exact G.handle (hm.lt _ (List.getElem_mem hmj) y hy)
  have e2 : ∀ i ∈ List.range L.length, emF L more (hOf b s j) i = if i = j then (more.getD j []).map (fun y => L.getD y 0) else [] := fun i hi => by
    have hi' : i < n := by rw [← G.len]; exact List.mem_range.1 hi
    unfold emF
    rw [G.handle hi']
    by_cases e : i = j
    · subst e; rw [if_pos rfl, if_pos rfl]
    · rw [if_neg (fun x => e (G.inj hi' hj x)), if_neg e]
  unfold emM emP
  rw [← e1]
  have : (List.range L.length).flatMap (emF L more (hOf b s j)) = (List.range L.length).flatMap (fun i => if i = j then (more.getD j []).map (fun y => L.getD y 0) else []) := fm_congr _ e2
  rw [this, flatMap_pick, if_pos (by rw [G.len]; exact hj)]
theorem GI.emIn (G : GI n b s L hp xs p m) (h : Int) : ∀ r ∈ emM L more h, InI r := fun r hr => by
  unfold emM emP at hr
  obtain ⟨i, -, hr⟩ := List.mem_flatMap.1 hr
  unfold emF at hr
  split at hr
  · obtain ⟨y, -, rfl⟩ := List.mem_map.1 hr
    exact G.inI y
  · cases hr
end
end Go.Proofs.Ythiiehanlconeaa
