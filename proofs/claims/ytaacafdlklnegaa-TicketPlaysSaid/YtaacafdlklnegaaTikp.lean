/-
  What every reachable state satisfies: well formed; keys of requests (plain laws of layer 53).
-/
import Derived.Test.YtaacafdlklnegaaTikn
namespace Go.Proofs.Ytaacafdlklnegaa
open Go.RowKit
set_option linter.unusedVariables false

theorem bytesEq {a b : ByteArray} : (a.toList == b.toList) = true ↔ a = b := by
  rw [beq_iff_eq, ByteArray.toList_eq, ByteArray.toList_eq]
  exact ⟨fun h => ByteArray.ext (Array.toList_inj.1 h), fun h => by rw [h]⟩
theorem pageN_inj {a b : Nat} (ha : a < 4) (hb : b < 4) (h : pageN a = pageN b) : a = b := by
  unfold pageN at h
  injection h with h
  have h1 := congrArg (fun x : Array UInt8 => x[4]?) h
  simp at h1
  have h2 := congrArg UInt8.toNat h1
  simp at h2
  omega
theorem pageN_size (k : Nat) : (pageN k).size = 5 := rfl

def key (x : Entry) : ByteArray × Int := (x.page, x.number)
def keys (s : State) : List (ByteArray × Int) := s.entries.map key
theorem getE {s : State} {j : Nat} (hj : j < s.entries.length) : s.entries.getD j noEntry = s.entries[j] := by simp [List.getD_eq_getElem?_getD, hj]
theorem keys_setE {s : State} {j : Nat} {x : Entry} (hj : j < s.entries.length) (h : key x = key s.entries[j]) : keys (s.setE j x) = keys s := by
  show (s.entries.set j x).map key = s.entries.map key
  rw [List.map_set, h]
  refine List.ext_getElem? fun i => ?_
  rw [List.getElem?_set]
  split
  · rename_i he
    subst he
    simp [hj]
  · rfl
theorem findE_some {page : ByteArray} {n : Int} : ∀ {l : List Entry} {k j : Nat}, findE page n l k = some j → ∃ h : j - k < l.length, k ≤ j ∧ l[j - k].page = page ∧ l[j - k].number = n
  | [], k, j, h => by simp [findE] at h
  | x :: l, k, j, h => by
    rw [findE] at h
    split at h
    · rename_i hc
      cases h
      rw [Bool.and_eq_true] at hc
      refine ⟨by simp, Nat.le_refl _, ?_⟩
      simp only [Nat.sub_self, List.getElem_cons_zero]
      exact ⟨bytesEq.1 hc.1, by simpa using hc.2⟩
    · obtain ⟨h1, h2, h3⟩ := findE_some h
      have e : j - k = (j - (k + 1)) + 1 := by omega
      refine ⟨by simp only [List.length_cons]; omega, by omega, ?_⟩
      simp only [e, List.getElem_cons_succ]
      exact h3
theorem findE_none {page : ByteArray} {n : Int} : ∀ {l : List Entry} {k : Nat}, findE page n l k = none → ∀ x ∈ l, ¬ (x.page = page ∧ x.number = n)
  | [], _, _ => by simp
  | x :: l, k, h => by
    rw [findE] at h
    split at h
    · cases h
    · rename_i hc
      intro y hy
      rcases List.mem_cons.1 hy with rfl | hy
      · rintro ⟨h1, h2⟩
        exact hc (by rw [Bool.and_eq_true]; exact ⟨bytesEq.2 h1, by simpa using h2⟩)
      · exact findE_none h y hy
theorem findO_some {page : ByteArray} : ∀ {l : List Owner} {k j : Nat}, findO page l k = some j → ∃ h : j - k < l.length, k ≤ j ∧ l[j - k].page = page
  | [], k, j, h => by simp [findO] at h
  | x :: l, k, j, h => by
    rw [findO] at h
    split at h
    · rename_i hc
      cases h
      refine ⟨by simp, Nat.le_refl _, ?_⟩
      simp only [Nat.sub_self, List.getElem_cons_zero]
      exact bytesEq.1 hc
    · obtain ⟨h1, h2, h3⟩ := findO_some h
      have e : j - k = (j - (k + 1)) + 1 := by omega
      refine ⟨by simp only [List.length_cons]; omega, by omega, ?_⟩
      simp only [e, List.getElem_cons_succ]
      exact h3
theorem findO_none {page : ByteArray} : ∀ {l : List Owner} {k : Nat}, findO page l k = none → ∀ x ∈ l, x.page ≠ page
  | [], _, _ => by simp
  | x :: l, k, h => by
    rw [findO] at h
    split at h
    · cases h
    · rename_i hc
      intro y hy
      rcases List.mem_cons.1 hy with rfl | hy
      · intro h1
        exact hc (bytesEq.2 h1)
      · exact findO_none h y hy

/-- A well-formed state. -/
structure Formed (s : State) : Prop where
  sent : s.sent = s.entries.map (·.request)
  owner : ∀ x ∈ s.owners, (1 ≤ x.page.size ∧ x.page.size ≤ 200) ∧ 1 ≤ x.epoch
  owners : (s.owners.map (·.page)).Nodup
  each : ∀ x ∈ s.entries, (1 ≤ x.page.size ∧ x.page.size ≤ 200) ∧ 1 ≤ x.number ∧ 0 ≤ x.acked ∧ (x.closed = true → x.pieces = [])
  keys : (keys s).Nodup
theorem formed_new : Formed newState := ⟨rfl, by simp [newState], by simp [newState], by simp [newState], by simp [Go.Proofs.Ytaacafdlklnegaa.keys, newState]⟩
theorem Formed.setE {s : State} (h : Formed s) {j : Nat} {x : Entry} (hj : j < s.entries.length) (hk : key x = key s.entries[j]) (hr : x.request = s.entries[j].request) (ha : 0 ≤ x.acked) (hc : x.closed = true → x.pieces = []) : Formed (s.setE j x) := by
  have hjm := h.each _ (List.getElem_mem hj)
  refine ⟨?_, h.owner, h.owners, ?_, by rw [keys_setE hj hk]; exact h.keys⟩
  · show s.sent = (s.entries.set j x).map (·.request)
    rw [h.sent, List.map_set, hr]
    refine List.ext_getElem? fun i => ?_
    rw [List.getElem?_set]
    split
    · rename_i he
      subst he
      simp [hj]
    · rfl
  · intro y hy
    rcases List.mem_or_eq_of_mem_set hy with h1 | h1
    · exact h.each y h1
    · subst h1
      unfold key at hk
      injection hk with h1 h2
      rw [h1, h2]
      exact ⟨hjm.1, hjm.2.1, ha, hc⟩
theorem Formed.claim {s : State} (h : Formed s) (page : ByteArray) (e : Int) : Formed (claimM s page e).2 := by
  unfold claimM
  split
  · exact h
  · rename_i hc
    have hn : 1 ≤ page.size ∧ page.size ≤ 200 := Classical.byContradiction fun x => hc (.inl x)
    have he : 1 ≤ e := by omega
    split
    · rename_i hf
      refine ⟨h.sent, ?_, ?_, h.each, h.keys⟩
      · intro (x : Owner) hx
        rcases List.mem_append.1 hx with hx | hx
        · exact h.owner x hx
        · simp only [List.mem_singleton] at hx; subst hx; exact ⟨hn, he⟩
      · show ((s.owners ++ [(⟨page, e⟩ : Owner)]).map (fun x : Owner => x.page)).Nodup
        rw [List.map_append, List.nodup_append]
        refine ⟨h.owners, by simp, ?_⟩
        intro a ha b hb
        simp only [List.map_cons, List.map_nil, List.mem_singleton] at hb
        obtain ⟨x, hx, rfl⟩ := List.mem_map.1 ha
        rw [hb]
        exact findO_none hf x hx
    · rename_i i hf
      split
      · exact h
      · have hi := findO_lt _ _ _ _ hf
        have hi' : i < s.owners.length := by omega
        have hg : s.owners.getD i noOwner = s.owners[i] := by simp [List.getD_eq_getElem?_getD, hi']
        rw [hg]
        refine ⟨h.sent, ?_, ?_, h.each, h.keys⟩
        · intro x hx
          rcases List.mem_or_eq_of_mem_set hx with h1 | h1
          · exact h.owner x h1
          · subst h1; exact ⟨(h.owner _ (List.getElem_mem hi')).1, he⟩
        · show ((s.owners.set i _).map (·.page)).Nodup
          have : (s.owners.set i { page := s.owners[i].page, epoch := e }).map (·.page) = s.owners.map (·.page) := by
            rw [List.map_set]
            refine List.ext_getElem? fun j => ?_
            rw [List.getElem?_set]
            split
            · rename_i he
              subst he
              simp [hi']
            · rfl
          rw [this]; exact h.owners
theorem openM_key {s : State} {page : ByteArray} {ep n : Int} {j : Nat} (h : (openM s page ep n).1 = some j) : findE page n s.entries 0 = some j ∧ (s.entries.getD j noEntry).closed = false := by
  unfold openM at h
  split at h
  · cases h
  · split at h
    · cases h
    · split at h
      · cases h
      · rename_i i hf hb
        cases h
        exact ⟨hf, by simpa using hb⟩
theorem Formed.do_ {s : State} (h : Formed s) (o : COp) : Formed (doM s o).2 := by
  unfold doM
  split
  · exact h.claim _ _
  · show Formed (askM s o.name o.epoch o.number o.text).2
    unfold askM
    split
    · exact h
    · split
      · exact h
      · rename_i hn
        split
        · split <;> exact h
        · rename_i hf
          split
          · exact h
          · refine ⟨by simp [h.sent], h.owner, h.owners, ?_, ?_⟩
            · intro x hx
              rcases List.mem_append.1 hx with hx | hx
              · exact h.each x hx
              · simp only [List.mem_singleton] at hx; subst hx
                refine ⟨?_, by show 1 ≤ o.number; omega, by simp, by simp⟩
                show 1 ≤ o.name.size ∧ o.name.size ≤ 200
                unfold COp.name
                rw [pageN_size]; omega
            · show ((s.entries ++ [_]).map key).Nodup
              rw [List.map_append, List.nodup_append]
              refine ⟨h.keys, by simp, ?_⟩
              intro a ha b hb
              simp only [List.map_cons, List.map_nil, List.mem_singleton] at hb
              obtain ⟨x, hx, rfl⟩ := List.mem_map.1 ha
              rw [hb]
              intro hk
              unfold key at hk
              injection hk with k1 k2
              exact findE_none hf x hx ⟨k1, k2⟩
  · show Formed (feedM s o.name o.number o.text).2
    unfold feedM
    cases hr : (runningM s o.name o.number).1 with
    | none => exact h
    | some j =>
      obtain ⟨hj, -⟩ := runningM_some hr
      simp only [getE hj]
      have := h.each _ (List.getElem_mem hj)
      split
      · exact h
      · rename_i hc
        exact h.setE hj rfl rfl this.2.2.1 (fun hx => absurd hx hc)
  · show Formed (endM s o.name o.number).2
    unfold endM
    cases hr : (runningM s o.name o.number).1 with
    | none => exact h
    | some j =>
      obtain ⟨hj, -⟩ := runningM_some hr
      simp only [getE hj]
      have := h.each _ (List.getElem_mem hj)
      exact h.setE hj rfl rfl this.2.2.1 this.2.2.2
  · exact h
  · show Formed (ackM s o.name o.epoch o.number o.at_).2
    unfold ackM
    cases hr : (fromM s o.name o.epoch o.number o.at_).1 with
    | none => exact h
    | some j =>
      obtain ⟨hj, -, h3, h4, -⟩ := fromM_some hr
      simp only [getE hj]
      have := h.each _ (List.getElem_mem hj)
      refine h.setE hj rfl rfl (by show 0 ≤ o.at_; omega) (fun hx => ?_)
      simp only [Bool.and_eq_true, List.isEmpty_iff] at hx
      exact hx.2
  · show Formed (closeM s o.name o.epoch o.number).2
    unfold closeM
    cases hr : (openM s o.name o.epoch o.number).1 with
    | none => exact h
    | some j =>
      obtain ⟨hj, -⟩ := openM_some hr
      simp only [getE hj]
      have := h.each _ (List.getElem_mem hj)
      exact h.setE hj rfl rfl (by show 0 ≤ s.entries[j].acked + _; omega) (fun _ => rfl)
  · exact h

/-- What a call does to the keys of the requests and to what was sent. -/
theorem doM_keys (s : State) (o : COp) :
    ((keys (doM s o).2 = keys s ∧ (doM s o).2.sent = s.sent) ∧ ((o.kind % 8).toNat = 1 → (doM s o).1.e = 0 → (o.name, o.number) ∈ keys s)) ∨
    ((o.kind % 8).toNat = 1 ∧ (doM s o).1.e = 0 ∧ (o.name, o.number) ∉ keys s ∧ keys (doM s o).2 = keys s ++ [(o.name, o.number)] ∧ (doM s o).2.sent = s.sent ++ [o.text]) := by
  unfold doM
  split
  · refine .inl ⟨?_, fun h => by omega⟩
    show keys (claimM s o.name o.epoch).2 = keys s ∧ (claimM s o.name o.epoch).2.sent = s.sent
    unfold claimM
    split
    · exact ⟨rfl, rfl⟩
    · split
      · exact ⟨rfl, rfl⟩
      · split <;> exact ⟨rfl, rfl⟩
  · rename_i hk
    show ((keys (askM s o.name o.epoch o.number o.text).2 = keys s ∧ (askM s o.name o.epoch o.number o.text).2.sent = s.sent) ∧ (_ → (askM s o.name o.epoch o.number o.text).1 = 0 → _)) ∨ (_ ∧ (askM s o.name o.epoch o.number o.text).1 = 0 ∧ _ ∧ keys (askM s o.name o.epoch o.number o.text).2 = _ ∧ (askM s o.name o.epoch o.number o.text).2.sent = _)
    unfold askM
    split
    · exact .inl ⟨⟨rfl, rfl⟩, fun _ h => by cases h⟩
    · split
      · exact .inl ⟨⟨rfl, rfl⟩, fun _ h => by cases h⟩
      · split
        · rename_i j hf
          obtain ⟨h1, h2, h3, h4⟩ := findE_some hf
          have hm : (o.name, o.number) ∈ keys s := by
            refine List.mem_map.2 ⟨_, List.getElem_mem h1, ?_⟩
            unfold key
            rw [h3, h4]
          split
          · exact .inl ⟨⟨rfl, rfl⟩, fun _ _ => hm⟩
          · exact .inl ⟨⟨rfl, rfl⟩, fun _ _ => hm⟩
        · rename_i hf
          split
          · exact .inl ⟨⟨rfl, rfl⟩, fun _ h => by cases h⟩
          · refine .inr ⟨hk, rfl, ?_, by simp [keys, key], rfl⟩
            intro hm
            obtain ⟨x, hx, he⟩ := List.mem_map.1 hm
            unfold key at he
            injection he with k1 k2
            exact findE_none hf x hx ⟨k1, k2⟩
  · refine .inl ⟨?_, fun h => by omega⟩
    show keys (feedM s o.name o.number o.text).2 = keys s ∧ (feedM s o.name o.number o.text).2.sent = s.sent
    unfold feedM
    cases hr : (runningM s o.name o.number).1 with
    | none => exact ⟨rfl, rfl⟩
    | some j =>
      obtain ⟨hj, -⟩ := runningM_some hr
      simp only [getE hj]
      split
      · exact ⟨rfl, rfl⟩
      · exact ⟨keys_setE hj rfl, rfl⟩
  · refine .inl ⟨?_, fun h => by omega⟩
    show keys (endM s o.name o.number).2 = keys s ∧ (endM s o.name o.number).2.sent = s.sent
    unfold endM
    cases hr : (runningM s o.name o.number).1 with
    | none => exact ⟨rfl, rfl⟩
    | some j =>
      obtain ⟨hj, -⟩ := runningM_some hr
      simp only [getE hj]
      exact ⟨keys_setE hj rfl, rfl⟩
  · exact .inl ⟨⟨rfl, rfl⟩, fun h => by omega⟩
  · refine .inl ⟨?_, fun h => by omega⟩
    show keys (ackM s o.name o.epoch o.number o.at_).2 = keys s ∧ (ackM s o.name o.epoch o.number o.at_).2.sent = s.sent
    unfold ackM
    cases hr : (fromM s o.name o.epoch o.number o.at_).1 with
    | none => exact ⟨rfl, rfl⟩
    | some j =>
      obtain ⟨hj, -⟩ := fromM_some hr
      simp only [getE hj]
      exact ⟨keys_setE hj rfl, rfl⟩
  · refine .inl ⟨?_, fun h => by omega⟩
    show keys (closeM s o.name o.epoch o.number).2 = keys s ∧ (closeM s o.name o.epoch o.number).2.sent = s.sent
    unfold closeM
    cases hr : (openM s o.name o.epoch o.number).1 with
    | none => exact ⟨rfl, rfl⟩
    | some j =>
      obtain ⟨hj, -⟩ := openM_some hr
      simp only [getE hj]
      exact ⟨keys_setE hj rfl, rfl⟩
  · rename_i h0 h1 h2 h3 h4 h5 h6
    exact .inl ⟨⟨rfl, rfl⟩, fun h => absurd h h1⟩
end Go.Proofs.Ytaacafdlklnegaa
