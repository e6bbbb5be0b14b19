/-
  CollectWeak, plainly: a chain of weak entries; what is found from its map and one of its objects.
-/
import Derived.Test.YthiiehanlconeaaDoorJrr
import Derived.Test.YthiiehanlconeaaDoorLcl
import Derived.Test.YthiiehanlconeaaDoorAwk
namespace Go.Proofs.YthiiehanlconeaaDoor
open Go.RowKit
set_option linter.unusedVariables false
set_option linter.unusedSimpArgs false

section
variable {N : Nat} {g : Nat → List Nat} {ps : Nat → List (Nat × Nat)}
/-- What is found is closed. -/
theorem liveK_closed (hg : ∀ o, o < N → ∀ y ∈ g o, y < N) (hps : ∀ o, o < N → ∀ q ∈ ps o, q.2 < N) : ∀ (f : Nat) (K : List Nat) (p : Nat), N - p ≤ f → p ≤ K.length → Good N K → Seen2 g K p → (p = 0 ∨ ∃ D, K = weakP ps D ∧ p = D.length) → Closed g ps (liveK g ps N f K p) := by
  have fin : ∀ (K : List Nat) (p : Nat), K.length ≤ p → p ≤ K.length → Seen2 g K p → (p = 0 ∨ ∃ D, K = weakP ps D ∧ p = D.length) → Closed g ps K := by
    intro K p h1 h2 hs h0
    rcases h0 with rfl | ⟨D, rfl, rfl⟩
    · have : K = [] := List.eq_nil_of_length_eq_zero (by omega)
      subst this
      exact ⟨(fun o ho => absurd ho (by simp)), (fun o ho => absurd ho (by simp))⟩
    · have hpre : D <+: weakP ps D := wkAll_prefix _ _
      have e : weakP ps D = D := (hpre.eq_of_length (by have := hpre.length_le; omega)).symm
      rw [e] at hs ⊢
      refine ⟨fun o ho y hy => ?_, fun o ho q hq h => ?_⟩
      · obtain ⟨i, hi, rfl⟩ := List.mem_iff_getElem.1 ho
        exact hs i hi hi y hy
      · have : q.2 ∈ weakP ps D := wk_mem (List.mem_flatMap.2 ⟨o, ho, hq⟩) h
        rwa [e] at this
  intro f
  induction f with
  | zero =>
    intro K p hf hp hK hs h0
    have := good_len N K hK
    exact fin K p (by omega) hp hs h0
  | succ f ih =>
    intro K p hf hp hK hs h0
    by_cases h : p < K.length
    · rw [liveK_step h]
      have h1 := drain_closed hg N K p (by omega) hK hs hp
      have h2 : Good N (drain g N K p) := Good.drain hg N p hK
      have h6 := drain_len (g := g) N K p
      have h5 : drain g N K p <+: weakP ps (drain g N K p) := wkAll_prefix _ _
      exact ih _ _ (by omega) h5.length_le (h2.weakP hps) (seen_pre h1 (Nat.le_refl _) h5) (.inr ⟨_, rfl, rfl⟩)
    · unfold liveK
      rw [if_neg h]
      exact fin K p (by omega) hp hs h0
/-- What is found lies in whatever holds its beginning and is closed. -/
theorem addAll_sub {T : Nat → Prop} {K l : List Nat} (hK : ∀ y ∈ K, T y) (hl : ∀ y ∈ l, T y) : ∀ y ∈ addAll K l, T y := by
  induction l generalizing K with
  | nil => exact hK
  | cons a l ih =>
    unfold addAll at *
    rw [List.foldl_cons]
    refine ih (fun y hy => ?_) (fun y hy => hl y (by simp [hy]))
    unfold addN at hy
    split at hy
    · exact hK y hy
    · rcases List.mem_append.1 hy with h | h
      · exact hK y h
      · rw [List.mem_singleton.1 h]; exact hl a (by simp)
theorem drain_sub {T : Nat → Prop} (hgT : ∀ o, T o → ∀ y ∈ g o, T y) : ∀ (f : Nat) (K : List Nat) (p : Nat), (∀ y ∈ K, T y) → ∀ y ∈ drain g f K p, T y
  | 0, K, p, h => h
  | f + 1, K, p, h => by
    by_cases hp : p < K.length
    · rw [drain_some hp]
      exact drain_sub hgT f _ _ (addAll_sub h (hgT _ (h _ (List.getElem_mem hp))))
    · rw [drain_none (by omega)]; exact h
theorem wks_sub {T : Nat → Prop} : ∀ (l : List (Nat × Nat)) (K : List Nat), (∀ q ∈ l, T q.1 → T q.2) → (∀ y ∈ K, T y) → ∀ y ∈ l.foldl wkStep K, T y
  | [], K, _, h => h
  | a :: l, K, hl, h => by
    rw [List.foldl_cons]
    refine wks_sub l _ (fun q hq => hl q (by simp [hq])) (fun y hy => ?_)
    unfold wkStep at hy
    split at hy
    · rename_i hm
      unfold addN at hy
      split at hy
      · exact h y hy
      · rcases List.mem_append.1 hy with q | q
        · exact h y q
        · rw [List.mem_singleton.1 q]; exact hl a (by simp) (h _ hm)
    · exact h y hy
theorem liveK_sub {T : Nat → Prop} (hgT : ∀ o, T o → ∀ y ∈ g o, T y) (hpT : ∀ o, T o → ∀ q ∈ ps o, T q.1 → T q.2) : ∀ (f : Nat) (K : List Nat) (p : Nat), (∀ y ∈ K, T y) → ∀ y ∈ liveK g ps N f K p, T y
  | 0, K, p, h => h
  | f + 1, K, p, h => by
    by_cases hp : p < K.length
    · rw [liveK_step hp]
      have h1 := drain_sub hgT N K p h
      refine liveK_sub hgT hpT f _ _ (wks_sub _ _ (fun q hq => ?_) h1)
      obtain ⟨o, ho, hq⟩ := List.mem_flatMap.1 hq
      exact hpT o (h1 o ho) q hq
    · unfold liveK; rw [if_neg hp]; exact h
theorem Good.liveK' (hg : ∀ o, o < N → ∀ y ∈ g o, y < N) (hps : ∀ o, o < N → ∀ q ∈ ps o, q.2 < N) : ∀ (f : Nat) (K : List Nat) (p : Nat), Good N K → Good N (liveK g ps N f K p)
  | 0, K, p, h => h
  | f + 1, K, p, h => by
    by_cases hp : p < K.length
    · rw [liveK_step hp]; exact Good.liveK' hg hps f _ _ ((Good.drain hg N p h).weakP hps)
    · unfold liveK; rw [if_neg hp]; exact h
end
/-! ### The heap of the law -/
def noW : Int → List Int := fun _ => []
def hW (i : Nat) : Int := handleM 6 6 ((i : Nat) : Int)
def entW (K : List Nat) : List Val := K.flatMap fun k => [refV (hW (13 + k)), refV (hW (14 + k))]
def mapW (K : List Nat) : Obj := { newObj 5 ((newM 6 6).protos.getD 5 0) with data := entW K }
/-- The heap: its own objects, the map with entries, k objects. -/
structure WH (k : Nat) (K : List Nat) (hp : Hp) : Prop where
  base : hp.base = 6
  stride : hp.stride = 6
  len : hp.slots.length = 13 + k
  free : hp.free = []
  live : hp.live = ((13 + k : Nat) : Int)
  prot : hp.protos = (newM 6 6).protos
  used : ∀ i, i < 13 + k → (hp.slots.getD i noSlt).used = true
  old : ∀ i, i < 12 → ∃ p : Int, (hp.slots.getD i noSlt).obj = newObj 0 p ∧ (p = 0 ∨ p = hW 0)
  map : (hp.slots.getD 12 noSlt).obj = mapW K
  rest : ∀ j, j < k → (hp.slots.getD (13 + j) noSlt).obj = newObj 0 (hW 0)
theorem newW_slot {i : Nat} (hi : i < 12) : ∃ p : Int, (newM 6 6).slots.getD i noSlt = ⟨true, newObj 0 p⟩ ∧ (p = 0 ∨ p = hW 0) := by
  rcases Nat.eq_zero_or_pos i with rfl | h
  · exact ⟨0, rfl, .inl rfl⟩
  · obtain ⟨j, rfl⟩ : ∃ j, i = j + 1 := ⟨i - 1, by omega⟩
    refine ⟨hW 0, ?_, .inr rfl⟩
    show (⟨true, newObj 0 0⟩ :: List.replicate 11 (⟨true, newObj 0 (handleM 6 6 0)⟩ : Slt)).getD (j + 1) noSlt = _
    rw [List.getD_cons_succ, List.getD_eq_getElem?_getD, List.getElem?_replicate, if_pos (by omega)]
    rfl
theorem getD_app_lt {l : List Slt} {x : Slt} {i : Nat} (h : i < l.length) : (l ++ [x]).getD i noSlt = l.getD i noSlt := by
  rw [List.getD_eq_getElem?_getD, List.getD_eq_getElem?_getD, List.getElem?_append_left h]
theorem getD_app_eq {l : List Slt} {x : Slt} : (l ++ [x]).getD l.length noSlt = x := by
  rw [List.getD_eq_getElem?_getD, List.getElem?_append_right (Nat.le_refl _), Nat.sub_self]; rfl
theorem wh_begin : WH 0 [] (addedM (newM 6 6) ⟨true, newObj ((5 : Nat) : Int) ((newM 6 6).protos.getD 5 0)⟩) := by
  refine ⟨rfl, rfl, rfl, rfl, rfl, rfl, fun i hi => ?_, fun i hi => ?_, ?_, fun j hj => by omega⟩
  · show (((newM 6 6).slots ++ [_]).getD i noSlt).used = true
    by_cases h : i < 12
    · rw [getD_app_lt (show i < (newM 6 6).slots.length from h)]
      obtain ⟨p, e, -⟩ := newW_slot h
      rw [e]
    · have : i = (newM 6 6).slots.length := by show i = 12; omega
      rw [this, getD_app_eq]
  · have e0 : (addedM (newM 6 6) ⟨true, newObj ((5 : Nat) : Int) ((newM 6 6).protos.getD 5 0)⟩).slots.getD i noSlt = (newM 6 6).slots.getD i noSlt := getD_app_lt (show i < (newM 6 6).slots.length from hi)
    rw [e0]
    obtain ⟨p, e, h⟩ := newW_slot hi
    exact ⟨p, by rw [e], h⟩
  · show (((newM 6 6).slots ++ [_]).getD (newM 6 6).slots.length noSlt).obj = _
    rw [getD_app_eq]; rfl
section
variable {k : Nat} {K : List Nat} {hp : Hp}
theorem WH.more (h : WH k K hp) : WH (k + 1) K (addedM hp ⟨true, newObj ((0 : Nat) : Int) (hp.protos.getD 0 0)⟩) := by
  have hl := h.len
  refine ⟨h.base, h.stride, ?_, h.free, ?_, h.prot, fun i hi => ?_, fun i hi => ?_, ?_, fun j hj => ?_⟩
  · show (hp.slots ++ [_]).length = _
    rw [List.length_append, hl]; rfl
  · show hp.live + 1 = _
    rw [h.live]; omega
  · show ((hp.slots ++ [_]).getD i noSlt).used = true
    by_cases e : i < hp.slots.length
    · rw [getD_app_lt e]; exact h.used i (by omega)
    · have : i = hp.slots.length := by omega
      rw [this, getD_app_eq]
  · have e0 : (addedM hp ⟨true, newObj ((0 : Nat) : Int) (hp.protos.getD 0 0)⟩).slots.getD i noSlt = hp.slots.getD i noSlt := getD_app_lt (by omega)
    rw [e0]; exact h.old i hi
  · show ((hp.slots ++ [_]).getD 12 noSlt).obj = _
    rw [getD_app_lt (by omega)]; exact h.map
  · show ((hp.slots ++ [_]).getD (13 + j) noSlt).obj = _
    by_cases e : j < k
    · rw [getD_app_lt (by omega)]; exact h.rest j e
    · have : 13 + j = hp.slots.length := by omega
      rw [this, getD_app_eq, h.prot]; rfl
theorem WH.put (h : WH k K hp) (K' : List Nat) : WH k K' (putO hp 12 (mapW K')) := by
  have hl : 12 < hp.slots.length := by rw [h.len]; omega
  have e : ∀ j, (putO hp 12 (mapW K')).slots.getD j noSlt = if 12 = j then { hp.slots.getD 12 noSlt with obj := mapW K' } else hp.slots.getD j noSlt := putO_get hl _
  refine ⟨h.base, h.stride, by show (hp.slots.set _ _).length = _; rw [List.length_set]; exact h.len, h.free, h.live, h.prot, fun i hi => ?_, fun i hi => ?_, ?_, fun j hj => ?_⟩
  · rw [e]
    split
    · exact h.used 12 (by omega)
    · exact h.used i hi
  · rw [e, if_neg (by omega)]; exact h.old i hi
  · rw [e, if_pos rfl]
  · rw [e, if_neg (by omega)]; exact h.rest j hj
theorem WH.slot (h : WH k K hp) (hk : k ≤ 100) {i : Nat} (hi : i < 13 + k) : slotOf hp (hW i) = some i := by
  have q := slotOf_handle (hp := hp) (s := i) (by rw [h.len]; exact hi) (h.used i hi) (by rw [h.len]; omega)
  rwa [h.base, h.stride] at q
theorem refs_map (K : List Nat) : refsM (mapW K) = nz [(newM 6 6).protos.getD 5 0] := by
  unfold mapW
  generalize (newM 6 6).protos.getD 5 0 = p
  unfold refsM refsL newObj framesM nz refsV
  by_cases h : p = 0 <;> simp [h]
theorem entW_len : ∀ K : List Nat, (entW K).length = 2 * K.length
  | [] => rfl
  | a :: K => by
    have ih := entW_len K
    unfold entW at ih ⊢
    rw [List.flatMap_cons, List.length_append, ih]; simp; omega
theorem refs_plain (p : Int) : refsM (newObj 0 p) = nz [p] := refsM_new 0 p
theorem WH.g (h : WH k K hp) (hk : k ≤ 100) {o : Nat} (ho : o < 13 + k) : ∀ y ∈ gP hp noW o, y < 12 := by
  intro y hy
  unfold gP noW at hy
  rw [List.append_nil] at hy
  obtain ⟨r, hr, hs⟩ := List.mem_filterMap.1 hy
  have h0 : slotOf hp 0 = none := by
    unfold slotOf indexM
    have q := normB_in hp.base
    rw [if_pos (show (0 : Int) < normB hp.base ∨ _ from .inl (by omega)), if_neg (fun x => by omega)]
  have key : r = 0 ∨ r = hW 0 ∨ r = hW 4 := by
    by_cases e : o < 12
    · obtain ⟨p, eo, hp0⟩ := h.old o e
      rw [eo, refs_plain] at hr
      have : r ∈ [p] := (List.mem_filter.1 hr).1
      rw [List.mem_singleton.1 this]
      rcases hp0 with q | q
      · exact .inl q
      · exact .inr (.inl q)
    · by_cases e2 : o = 12
      · rw [e2, h.map] at hr
        have hr' : r ∈ nz [(newM 6 6).protos.getD 5 0] := by
          have : refsM (mapW K) = nz [(newM 6 6).protos.getD 5 0] := refs_map K
          rwa [this] at hr
        have : r ∈ [(newM 6 6).protos.getD 5 0] := (List.mem_filter.1 hr').1
        rw [List.mem_singleton.1 this]
        exact .inr (.inr rfl)
      · obtain ⟨j, rfl⟩ : ∃ j, o = 13 + j := ⟨o - 13, by omega⟩
        rw [h.rest j (by omega), refs_plain] at hr
        have : r ∈ [hW 0] := (List.mem_filter.1 hr).1
        rw [List.mem_singleton.1 this]
        exact .inr (.inl rfl)
  rcases key with rfl | rfl | rfl
  · rw [h0] at hs; cases hs
  · rw [h.slot hk (by omega)] at hs; cases hs; omega
  · rw [h.slot hk (by omega)] at hs; cases hs; omega
theorem WH.ps (h : WH k K hp) (hk : k ≤ 100) (hK : ∀ q ∈ K, q + 1 < k) {o : Nat} (ho : o < 13 + k) : psP hp o = if o = 12 then K.map fun q => (13 + q, 14 + q) else [] := by
  unfold psP
  by_cases e : o = 12
  · rw [if_pos e, e, h.map, if_pos (show (mapW K).kind = 5 from rfl)]
    show (pairsM (entW K)).filterMap (pairS hp) = _
    unfold entW
    rw [pairs_flat (fun k => refV (hW (13 + k))) (fun k => refV (hW (14 + k)))]
    induction K with
    | nil => rfl
    | cons a K ih => 
      have ha := hK a (by simp)
      have hp1 : pairS hp (refV (hW (13 + a)), refV (hW (14 + a))) = some (13 + a, 14 + a) := by
        unfold pairS
        rw [if_pos ⟨rfl, rfl⟩]
        simp only [refV, h.slot hk (show 13 + a < 13 + k by omega), h.slot hk (show 14 + a < 13 + k by omega)]
      rw [List.map_cons, List.filterMap_cons_some hp1, List.map_cons]
      congr 1
      have : ∀ l : List Nat, (∀ q ∈ l, q + 1 < k) → (l.map fun k => (refV (hW (13 + k)), refV (hW (14 + k)))).filterMap (pairS hp) = l.map fun q => (13 + q, 14 + q) := by
        intro l
        induction l with
        | nil => intro _; rfl
        | cons a l ih =>
          intro hl
          have ha := hl a (by simp)
          have hp1 : pairS hp (refV (hW (13 + a)), refV (hW (14 + a))) = some (13 + a, 14 + a) := by
            unfold pairS
            rw [if_pos ⟨rfl, rfl⟩]
            simp only [refV, h.slot hk (show 13 + a < 13 + k by omega), h.slot hk (show 14 + a < 13 + k by omega)]
          rw [List.map_cons, List.filterMap_cons_some hp1, List.map_cons, ih fun q hq => hl q (by simp [hq])]
      exact this K fun q hq => hK q (by simp [hq])
  · rw [if_neg e]
    by_cases e1 : o < 12
    · obtain ⟨p, eo, -⟩ := h.old o e1
      rw [eo, if_neg (by show ¬ (0 : Int) = 5; omega)]
    · obtain ⟨j, rfl⟩ : ∃ j, o = 13 + j := ⟨o - 13, by omega⟩
      rw [h.rest j (by omega), if_neg (by show ¬ (0 : Int) = 5; omega)]
theorem WH.ok (h : WH k K hp) (hk : k ≤ 100) (hKl : K.length ≤ 100) : HpOk hp := by
  have hin : ∀ i, i ≤ 1000 → InI (hW i) := fun i hi => handle_InI 6 6 (i := i) (by omega)
  have key : ∀ s (hs : s < hp.slots.length), (∃ p : Int, hp.slots[s].obj = newObj 0 p ∧ (p = 0 ∨ p = hW 0)) ∨ hp.slots[s].obj = mapW K := fun s hs => by
    have e0 : hp.slots[s] = hp.slots.getD s noSlt := (getD_get hs).symm
    rw [e0]
    have := h.len
    by_cases e : s < 12
    · exact .inl (h.old s e)
    · by_cases e2 : s = 12
      · rw [e2]; exact .inr h.map
      · obtain ⟨j, rfl⟩ : ∃ j, s = 13 + j := ⟨s - 13, by omega⟩
        exact .inl ⟨_, h.rest j (by omega), .inr rfl⟩
  have hlen := entW_len K
  have hz : InI 0 := ⟨by omega, by omega⟩
  refine ⟨by rw [h.len]; omega, fun s hs => ?_, fun s hs r hr => ?_, fun s hs v hv => ?_⟩
  · rcases key s hs with ⟨p, e, -⟩ | e
    · rw [e]; exact ⟨by simp [newObj], by simp [newObj], by simp [newObj], by simp [newObj], fun f hf => by simp [newObj] at hf⟩
    · rw [e]; exact ⟨by simp [mapW, newObj], by simp [mapW, newObj], by show (entW K).length ≤ 1000; omega, by simp [mapW, newObj], fun f hf => by simp [mapW, newObj] at hf⟩
  · rcases key s hs with ⟨p, e, hp0⟩ | e
    · rw [e, refs_plain] at hr
      have : r ∈ [p] := (List.mem_filter.1 hr).1
      rw [List.mem_singleton.1 this]
      rcases hp0 with rfl | rfl
      · exact hz
      · exact hin 0 (by omega)
    · rw [e] at hr
      have e2 : refsM (mapW K) = nz [(newM 6 6).protos.getD 5 0] := refs_map K
      rw [e2] at hr
      have : r ∈ [(newM 6 6).protos.getD 5 0] := (List.mem_filter.1 hr).1
      rw [List.mem_singleton.1 this]
      exact hin 4 (by omega)
  · rcases key s hs with ⟨p, e, -⟩ | e
    · rw [e] at hv; simp [newObj] at hv
    · rw [e] at hv
      have hv' : v ∈ entW K := hv
      unfold entW at hv'
      obtain ⟨q, hq, hv2⟩ := List.mem_flatMap.1 hv'
      have hI : ∀ i, InI (hW i) := fun i => by
        unfold hW handleM
        split
        · exact hz
        · rename_i hh
          have a1 := normB_in 6
          have e6 : normB 6 = 6 := by decide
          rw [e6]
          constructor <;> omega
      simp only [List.mem_cons, List.not_mem_nil, or_false] at hv2
      rcases hv2 with rfl | rfl
      · exact hI _
      · exact hI _
/-- Alive are the chain's objects from the one that is held. -/
theorem WH.found (h : WH k K hp) (hk : k ≤ 100) (hK : ∀ q ∈ K, q + 1 < k) (hall : ∀ q, q + 1 < k → q ∈ K) {cut : Nat} (hc : cut < k) {i : Nat} (hi : i < k) :
    13 + i ∈ liveM hp noW hp.slots.length hp.slots.length (addsK hp [] [hW 12, hW (13 + cut)]) 0 ↔ cut ≤ i := by
  rw [liveM_eq, addsK_eq]
  have e0 : [hW 12, hW (13 + cut)].filterMap (slotOf hp) = [12, 13 + cut] := by
    rw [List.filterMap_cons_some (h.slot hk (by omega)), List.filterMap_cons_some (h.slot hk (by omega))]; rfl
  rw [e0, h.len]
  have hg : ∀ o, o < 13 + k → ∀ y ∈ gP hp noW o, y < 13 + k := fun o ho y hy => by have := h.g hk ho y hy; omega
  have hps : ∀ o, o < 13 + k → ∀ q ∈ psP hp o, q.2 < 13 + k := fun o ho q hq => by
    rw [h.ps hk hK ho] at hq
    split at hq
    · obtain ⟨a, ha, rfl⟩ := List.mem_map.1 hq
      have := hK a ha
      show 14 + a < _; omega
    · cases hq
  have h0 : addAll [] [12, 13 + cut] = [12, 13 + cut] := by
    show addN (addN [] 12) (13 + cut) = _
    unfold addN
    simp
    omega
  rw [h0]
  have hgd : Good (13 + k) [12, 13 + cut] := ⟨by simp; omega, fun y hy => by simp at hy; omega⟩
  have hcl := liveK_closed hg hps (13 + k) [12, 13 + cut] 0 (by omega) (by omega) hgd (fun i hi h0 => by omega) (.inl rfl)
  have hpre := liveK_prefix (gP hp noW) (psP hp) (13 + k) (13 + k) [12, 13 + cut] 0
  constructor
  · intro hm
    have hT := liveK_sub (g := gP hp noW) (ps := psP hp) (N := 13 + k) (T := fun o => o < 13 ∨ (13 + cut ≤ o ∧ o < 13 + k)) (fun o ho y hy => .inl (by have := h.g hk (by omega) y hy; omega)) (fun o ho q hq h1 => by
      rw [h.ps hk hK (by omega)] at hq
      split at hq
      · obtain ⟨a, ha, rfl⟩ := List.mem_map.1 hq
        have := hK a ha
        have h1' : 13 + a < 13 ∨ (13 + cut ≤ 13 + a ∧ 13 + a < 13 + k) := h1
        exact .inr (by show 13 + cut ≤ 14 + a ∧ 14 + a < 13 + k; omega)
      · cases hq) (13 + k) [12, 13 + cut] 0 (fun y hy => by simp at hy; omega) _ hm
    omega
  · intro hci
    have h12 : 12 ∈ liveK (gP hp noW) (psP hp) (13 + k) (13 + k) [12, 13 + cut] 0 := hpre.subset (by simp)
    have hst : ∀ d, cut + d < k → 13 + (cut + d) ∈ liveK (gP hp noW) (psP hp) (13 + k) (13 + k) [12, 13 + cut] 0 := by
      intro d
      induction d with
      | zero => intro _; exact hpre.subset (by simp)
      | succ d ih =>
        intro hd
        have hq : (13 + (cut + d), 14 + (cut + d)) ∈ psP hp 12 := by
          rw [h.ps hk hK (by omega), if_pos rfl]
          exact List.mem_map.2 ⟨cut + d, hall _ (by omega), rfl⟩
        have := hcl.w 12 h12 _ hq (ih (by omega))
        have e : 14 + (cut + d) = 13 + (cut + (d + 1)) := by omega
        rw [← e]; exact this
    have := hst (i - cut) (by omega)
    rwa [show cut + (i - cut) = i from by omega] at this
theorem WH.none (h : WH k K hp) (hk : k ≤ 100) (hK : ∀ q ∈ K, q + 1 < k) {i : Nat} (hi : i < k) :
    13 + i ∉ liveM hp noW hp.slots.length hp.slots.length (addsK hp [] [hW 12]) 0 := by
  rw [liveM_eq, addsK_eq]
  have e0 : [hW 12].filterMap (slotOf hp) = [12] := by rw [List.filterMap_cons_some (h.slot hk (by omega))]; rfl
  rw [e0, h.len]
  intro hm
  have hT := liveK_sub (g := gP hp noW) (ps := psP hp) (N := 13 + k) (T := fun o => o < 13) (fun o ho y hy => by have := h.g hk (by omega) y hy; omega) (fun o ho q hq h1 => by
    rw [h.ps hk hK (by omega)] at hq
    split at hq
    · obtain ⟨a, ha, rfl⟩ := List.mem_map.1 hq
      have h1' : 13 + a < 13 := h1
      omega
    · cases hq) (13 + k) (addAll [] [12]) 0 (fun y hy => by have : y ∈ [12] := hy; rw [List.mem_singleton.1 this]; omega) _ hm
  omega
/-- A list of slots, as handles. -/
theorem WH.mem (h : WH k K hp) (hk : k ≤ 100) {R : List Nat} (hR : ∀ r ∈ R, r < 13 + k) {i : Nat} (hi : i < 13 + k) : hW i ∈ R.map (fun r => hW r) ↔ i ∈ R := by
  constructor
  · intro hm
    obtain ⟨r, hr, e⟩ := List.mem_map.1 hm
    have h1 := h.slot hk (hR r hr)
    rw [e, h.slot hk hi] at h1
    rw [Option.some.inj h1]; exact hr
  · intro hm; exact List.mem_map.2 ⟨i, hm, rfl⟩
theorem WH.lt (h : WH k K hp) (hk : k ≤ 100) (hK : ∀ q ∈ K, q + 1 < k) {l : List Nat} (hl : Good (13 + k) l) : Good (13 + k) (liveK (gP hp noW) (psP hp) (13 + k) (13 + k) l 0) := by
  have hg : ∀ o, o < 13 + k → ∀ y ∈ gP hp noW o, y < 13 + k := fun o ho y hy => by have := h.g hk ho y hy; omega
  have hps : ∀ o, o < 13 + k → ∀ q ∈ psP hp o, q.2 < 13 + k := fun o ho q hq => by
    rw [h.ps hk hK ho] at hq
    split at hq
    · obtain ⟨a, ha, rfl⟩ := List.mem_map.1 hq
      have := hK a ha
      show 14 + a < _; omega
    · cases hq
  exact Good.liveK' hg hps _ _ _ hl
end
/-- The keys of the map behind the first entries. -/
def addE (K : List Nat) (q : Nat) : List Nat := if q ∈ K then K else K ++ [q]
end Go.Proofs.YthiiehanlconeaaDoor
