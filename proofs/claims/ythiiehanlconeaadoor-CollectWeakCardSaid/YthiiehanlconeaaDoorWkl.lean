/-
  CollectWeak: one entry put; what is found, as a list of handles.
-/
import Derived.Test.YthiiehanlconeaaDoorMst
import Derived.Test.YthiiehanlconeaaDoorLwk
import Derived.Test.YthiiehanlconeaaDoorHl
namespace Go.Proofs.YthiiehanlconeaaDoor
open Go.RowKit
set_option linter.unusedVariables false
set_option linter.unusedSimpArgs false

theorem entW_pairs (K : List Nat) : entW K = (K.map fun k => (hW (13 + k), hW (14 + k))).flatMap fun q => [refV q.1, refV q.2] := by
  unfold entW
  rw [List.flatMap_map]
theorem entW_more (K : List Nat) (q : Nat) : entW (K ++ [q]) = entW K ++ [refV (hW (13 + q)), refV (hW (14 + q))] := by
  unfold entW
  rw [List.flatMap_append]; rfl
theorem addE_lt {K : List Nat} {n q : Nat} (hK : ∀ x ∈ K, x < n) (hq : q < n) : ∀ x ∈ addE K q, x < n := by
  unfold addE
  split
  · exact hK
  · intro x hx
    rcases List.mem_append.1 hx with h | h
    · exact hK x h
    · rw [List.mem_singleton.1 h]; exact hq
theorem addE_len (K : List Nat) (q : Nat) : (addE K q).length ≤ K.length + 1 := by
  unfold addE
  split
  · omega
  · rw [List.length_append]; simp
theorem addE_mem (K : List Nat) (q : Nat) : q ∈ addE K q := by
  unfold addE
  split
  · assumption
  · simp
theorem addE_sub {K : List Nat} {q x : Nat} (h : x ∈ K) : x ∈ addE K q := by
  unfold addE
  split
  · exact h
  · simp [h]
theorem hW_in (i : Nat) (hi : i ≤ 1000) : -9223372036854775808 ≤ hW i ∧ hW i ≤ 9223372036854775807 := by
  have := handle_in 6 6 (i := i) (by omega)
  unfold hW
  omega
section
variable {n : Nat} {K : List Nat} {hp : Hp}
theorem WH.inj (h : WH (n + 1) K hp) (hn : n ≤ 90) {i j : Nat} (hi : i < 13 + (n + 1)) (hj : j < 13 + (n + 1)) (e : hW i = hW j) : i = j := by
  have h1 := h.slot (by omega) hi
  rw [e, h.slot (by omega) hj] at h1
  exact (Option.some.inj h1).symm
theorem mset_step (w0 w : World) (bh : Nat) (v : Value) (L : List Int) (F : List Nat) (q : Nat) (H : HL w0 w bh hp v L F) (wh : WH (n + 1) K hp) (hn : n ≤ 20) (hK : ∀ x ∈ K, x < n) (hl : K.length ≤ 100) (hq : q < n) :
    Calls Tryd.prog 8 #[.pointer (some ⟨bh, 0, none⟩), .int .i64 (hW 12), .agg #[.int .i64 5, .int .i64 0, .string ⟨#[]⟩, .int .i64 (hW (13 + q))], .agg #[.int .i64 5, .int .i64 0, .string ⟨#[]⟩, .int .i64 (hW (14 + q))]] w
      fun e w' => e = .returned (.int .i64 0) ∧ ∃ hp' F', WH (n + 1) (addE K q) hp' ∧ HL w0 w' bh hp' v L F' := by
  have hs := wh.slot (by omega) (i := 12) (by omega)
  have h12 : 12 < hp.slots.length := by rw [wh.len]; omega
  have hob : hp.slots[12].obj = mapW K := by rw [← wh.map, getD_get h12]
  have hk : hp.slots[12].obj.kind = 5 := by rw [hob]; rfl
  have hd : hp.slots[12].obj.data = (K.map fun k => (hW (13 + k), hW (14 + k))).flatMap fun q => [refV q.1, refV q.2] := by rw [hob, ← entW_pairs]; rfl
  by_cases hm : q ∈ K
  · have e0 : addE K q = K := by unfold addE; rw [if_pos hm]
    rw [e0]
    refine (mset_old w bh hp F (hW 12) 12 _ (hW (13 + q)) (hW (14 + q)) H.heap.here (hW_in 12 (by omega)) hs h12 hk hd (by rw [List.length_map]; omega) ⟨_, List.mem_map.2 ⟨q, hm, rfl⟩, rfl⟩ ?_).mono ?_
    · intro x hx e
      obtain ⟨j, hj, rfl⟩ := List.mem_map.1 hx
      have := wh.inj (by omega) (i := 13 + j) (j := 13 + q) (by have := hK j hj; omega) (by omega) e
      show hW (14 + j) = _
      rw [show j = q by omega]
    · rintro e w' ⟨rfl, hc⟩
      exact ⟨rfl, hp, F, wh, H.still hc⟩
  · have e0 : addE K q = K ++ [q] := by unfold addE; rw [if_neg hm]
    rw [e0]
    refine (mset_new w bh hp F (hW 12) 12 _ (hW (13 + q)) (hW (14 + q)) H.heap.here (hW_in 12 (by omega)) hs h12 hk hd (by rw [List.length_map]; omega) ?_).mono ?_
    · intro x hx e
      obtain ⟨j, hj, rfl⟩ := List.mem_map.1 hx
      have := wh.inj (by omega) (i := 13 + j) (j := 13 + q) (by have := hK j hj; omega) (by omega) e
      exact hm (by rw [show q = j by omega]; exact hj)
    · rintro e w' ⟨rfl, hpo⟩
      have e1 : ({ hp.slots[12].obj with data := hp.slots[12].obj.data ++ [refV (hW (13 + q)), refV (hW (14 + q))] } : Obj) = mapW (K ++ [q]) := by
        rw [hob]
        show ({ mapW K with data := entW K ++ _ } : Obj) = _
        unfold mapW
        rw [entW_more]
      rw [e1] at hpo
      obtain ⟨F', hh⟩ := H.heapS hpo
      exact ⟨rfl, _, F', wh.put (K ++ [q]), hh⟩
/-- What is found lies in the heap. -/
theorem WH.good (h : WH (n + 1) K hp) (hn : n ≤ 90) (hK : ∀ x ∈ K, x < n) (l : List Int) : Good (13 + (n + 1)) (liveM hp noW hp.slots.length hp.slots.length (addsK hp [] l) 0) := by
  rw [liveM_eq, addsK_eq, h.len]
  refine h.lt (by omega) (fun q hq => by have := hK q hq; omega) ((Good.nil _).all fun y hy => ?_)
  obtain ⟨x, -, hx⟩ := List.mem_filterMap.1 hy
  obtain ⟨hi, -⟩ := slotOf_lt hx
  rw [h.len] at hi
  exact hi
end
end Go.Proofs.YthiiehanlconeaaDoor
