/-
  A page that no call named; a state put out of form (TicketForms).
-/
import Derived.Test.YtaacafdlklnegaaTikw
namespace Go.Proofs.Ytaacafdlklnegaa
open Go.RowKit
set_option linter.unusedVariables false

/-- Only the statements' pages are named. -/
structure Named (s : State) : Prop where
  os : ∀ p ∈ s.owners.map (·.page), ∃ q, p = pageN q
  es : ∀ k ∈ keys s, ∃ q, k.1 = pageN q
theorem named_new : Named newState := ⟨by simp [newState], by simp [newState, keys]⟩
theorem claim_pages (s : State) (p : ByteArray) (e : Int) : (claimM s p e).2.owners.map (·.page) = s.owners.map (·.page) ∨ (claimM s p e).2.owners.map (·.page) = s.owners.map (·.page) ++ [p] := by
  unfold claimM
  split
  · exact .inl rfl
  · split
    · exact .inr (by simp)
    · rename_i i hf
      have hi := findO_lt _ _ _ _ hf
      have hi' : i < s.owners.length := by omega
      have hg : s.owners.getD i noOwner = s.owners[i] := by simp [List.getD_eq_getElem?_getD, hi']
      simp only [hg]
      split
      · exact .inl rfl
      · refine .inl ?_
        show (s.owners.set i _).map (·.page) = _
        rw [List.map_set]
        refine List.ext_getElem? fun j => ?_
        rw [List.getElem?_set]
        split
        · rename_i he
          subst he
          simp [hi']
        · rfl
theorem Named.do_ {s : State} (h : Named s) (o : COp) : Named (doM s o).2 := by
  refine ⟨fun p hp => ?_, fun k hk => ?_⟩
  · by_cases hz : (o.kind % 8).toNat = 0
    · have hd : (doM s o).2 = (claimM s o.name o.epoch).2 := by unfold doM; rw [hz]; rfl
      rw [hd] at hp
      rcases claim_pages s o.name o.epoch with e | e
      · rw [e] at hp; exact h.os p hp
      · rw [e] at hp
        rcases List.mem_append.1 hp with hp | hp
        · exact h.os p hp
        · simp only [List.mem_singleton] at hp; exact ⟨_, hp⟩
    · rw [owners_do s o hz] at hp
      exact h.os p hp
  · rcases doM_keys s o with ⟨⟨e, _⟩, _⟩ | ⟨_, _, _, e, _⟩
    · rw [e] at hk; exact h.es k hk
    · rw [e] at hk
      rcases List.mem_append.1 hk with hk | hk
      · exact h.es k hk
      · simp only [List.mem_singleton] at hk; subst hk; exact ⟨_, rfl⟩
def extra : ByteArray := ⟨#[101, 120, 116, 114, 97]⟩
def reqQ : ByteArray := ⟨#[113]⟩
theorem extra_ne (q : Nat) : extra ≠ pageN q := by
  intro h
  unfold extra pageN at h
  injection h with h
  have := congrArg (fun x : Array UInt8 => x[0]?) h
  simp at this
theorem findO_none' {page : ByteArray} : ∀ {l : List Owner} {k : Nat}, (∀ x ∈ l, x.page ≠ page) → findO page l k = none
  | [], _, _ => rfl
  | x :: l, k, h => by
    rw [findO, if_neg (fun e => h x (List.mem_cons_self ..) (bytesEq.1 e))]
    exact findO_none' fun y hy => h y (List.mem_cons_of_mem _ hy)
theorem findE_none' {page : ByteArray} {n : Int} : ∀ {l : List Entry} {k : Nat}, (∀ x ∈ l, x.page ≠ page) → findE page n l k = none
  | [], _, _ => rfl
  | x :: l, k, h => by
    rw [findE, if_neg (fun e => by rw [Bool.and_eq_true] at e; exact h x (List.mem_cons_self ..) (bytesEq.1 e.1))]
    exact findE_none' fun y hy => h y (List.mem_cons_of_mem _ hy)
def lastE : Entry := ⟨extra, 7, reqQ, [], 0, false, false⟩
def addX (s : State) : State := ⟨s.owners ++ [⟨extra, 3⟩], s.entries ++ [lastE], s.sent ++ [reqQ]⟩
theorem Named.claimX {s : State} (h : Named s) : claimM s extra 3 = (0, ⟨s.owners ++ [⟨extra, 3⟩], s.entries, s.sent⟩) := by
  unfold claimM
  rw [if_neg (by decide), findO_none' (fun x hx e => by
    obtain ⟨q, hq⟩ := h.os _ (List.mem_map.2 ⟨x, hx, rfl⟩)
    exact extra_ne q (e.symm.trans hq))]
theorem Named.askX {s : State} (h : Named s) : askM ⟨s.owners ++ [⟨extra, 3⟩], s.entries, s.sent⟩ extra 3 7 reqQ = (0, addX s) := by
  have h1 : ∀ x ∈ s.entries, x.page ≠ extra := fun x hx e => by
    obtain ⟨q, hq⟩ := h.es (key x) (List.mem_map.2 ⟨x, hx, rfl⟩)
    exact extra_ne q (e.symm.trans hq)
  have h2 : ∀ x ∈ s.owners, x.page ≠ extra := fun x hx e => by
    obtain ⟨q, hq⟩ := h.os _ (List.mem_map.2 ⟨x, hx, rfl⟩)
    exact extra_ne q (e.symm.trans hq)
  have h3 : opens ⟨s.owners ++ [⟨extra, 3⟩], s.entries, s.sent⟩ extra = [] := by
    unfold opens
    rw [List.filter_eq_nil_iff.2 (fun x hx hc => by
      unfold isOpen at hc
      rw [Bool.and_eq_true] at hc
      exact h1 x hx (bytesEq.1 hc.1))]
    rfl
  have h4 : servesB ⟨s.owners ++ [⟨extra, 3⟩], s.entries, s.sent⟩ extra 3 = true := by
    unfold servesB
    dsimp only
    rw [findO_append, findO_none' h2]
    simp [findO]
  unfold askM
  rw [h4, if_neg (by simp), if_neg (by decide), findE_none' h1]
  simp only
  rw [h3, if_neg (by simp)]
  rfl
/-- How a state is put out of form. -/
def badM (s : State) (k : Nat) : State :=
  match k with
  | 0 => { addX s with owners := (addX s).owners.set 0 { (addX s).owners.getD 0 noOwner with epoch := 0 } }
  | 1 => { addX s with owners := (addX s).owners ++ [⟨((addX s).owners.getD 0 noOwner).page, 5⟩] }
  | 2 => (addX s).setE s.entries.length { lastE with number := 0 }
  | 3 => (addX s).setE s.entries.length { lastE with acked := -1 }
  | 4 => (addX s).setE s.entries.length { lastE with closed := true, pieces := [⟨#[120]⟩] }
  | 5 => { addX s with sent := s.sent }
  | 6 => { addX s with sent := (addX s).sent.set s.sent.length ⟨#[111, 116, 104, 101, 114]⟩ }
  | _ => (addX s).setE s.entries.length { lastE with page := ⟨#[]⟩ }
theorem setE_get (s : State) (x : Entry) : ∃ h : s.entries.length < ((addX s).setE s.entries.length x).entries.length, ((addX s).setE s.entries.length x).entries[s.entries.length] = x := by
  have h : s.entries.length < ((addX s).setE s.entries.length x).entries.length := by
    show _ < ((s.entries ++ [lastE]).set _ _).length; simp
  refine ⟨h, ?_⟩
  show ((s.entries ++ [lastE]).set _ _)[s.entries.length]'_ = x
  simp
theorem badM_bad (s : State) (hs : s.sent.length = s.entries.length) (k : Nat) (hk : k < 8) : ¬ AllOk (badM s k) := by
  intro h
  have hlen : 0 < (addX s).owners.length := by unfold addX; simp
  match k, hk with
  | 0, _ =>
    have h0 : 0 < (badM s 0).owners.length := by show 0 < ((addX s).owners.set _ _).length; rw [List.length_set]; exact hlen
    have h1 := (h.os 0 h0).2.1
    have h2 : (badM s 0).owners[0] = { (addX s).owners.getD 0 noOwner with epoch := 0 } := by
      have h3 : (badM s 0).owners[0]? = some { (addX s).owners.getD 0 noOwner with epoch := 0 } := by
        show ((addX s).owners.set 0 { (addX s).owners.getD 0 noOwner with epoch := 0 })[0]? = _
        rw [List.getElem?_set_self hlen]
      rw [List.getElem?_eq_getElem h0] at h3
      exact Option.some.inj h3
    rw [h2] at h1
    simp at h1
  | 1, _ =>
    have hl : (addX s).owners.length < (badM s 1).owners.length := by show _ < ((addX s).owners ++ [_]).length; simp
    have h1 := (h.os _ hl).2.2
    have h2 : (badM s 1).owners[(addX s).owners.length] = ⟨((addX s).owners.getD 0 noOwner).page, 5⟩ := by
      show ((addX s).owners ++ [_])[(addX s).owners.length]'_ = _
      simp
    rw [h2] at h1
    have h3 : findO ((addX s).owners.getD 0 noOwner).page (badM s 1).owners 0 = some 0 := by
      show findO _ ((addX s).owners ++ [_]) 0 = _
      match hq : (addX s).owners, hlen with
      | x :: l, _ =>
        rw [List.cons_append, findO, if_pos (by simp)]
    dsimp only at h1
    rw [h3] at h1
    have := Option.some.inj h1
    omega
  | 2, _ =>
    obtain ⟨hl, he⟩ := setE_get s { lastE with number := 0 }
    have h1 := (h.es _ hl).2.1
    change 1 ≤ (((addX s).setE s.entries.length { lastE with number := 0 }).entries[s.entries.length]).number at h1
    rw [he] at h1
    simp at h1
  | 3, _ =>
    obtain ⟨hl, he⟩ := setE_get s { lastE with acked := -1 }
    have h1 := (h.es _ hl).2.2.1
    change 0 ≤ (((addX s).setE s.entries.length { lastE with acked := -1 }).entries[s.entries.length]).acked at h1
    rw [he] at h1
    simp at h1
  | 4, _ =>
    obtain ⟨hl, he⟩ := setE_get s { lastE with closed := true, pieces := [⟨#[120]⟩] }
    have h1 := (h.es _ hl).2.2.2.1
    change (((addX s).setE s.entries.length { lastE with closed := true, pieces := [⟨#[120]⟩] }).entries[s.entries.length]).closed = true → (((addX s).setE s.entries.length { lastE with closed := true, pieces := [⟨#[120]⟩] }).entries[s.entries.length]).pieces = [] at h1
    rw [he] at h1
    simp at h1
  | 5, _ =>
    have h1 := h.len
    change s.sent.length = (s.entries ++ [lastE]).length at h1
    rw [List.length_append] at h1
    simp at h1
    omega
  | 6, _ =>
    have hl : s.entries.length < (badM s 6).entries.length := by show _ < (s.entries ++ [lastE]).length; simp
    have h1 := (h.es _ hl).2.2.2.2.1
    have h2 : (badM s 6).entries[s.entries.length] = lastE := by
      have h3 : (badM s 6).entries[s.entries.length]? = some lastE := by
        show (s.entries ++ [lastE])[s.entries.length]? = _
        simp
      rw [List.getElem?_eq_getElem hl] at h3
      exact Option.some.inj h3
    rw [h2] at h1
    change ((s.sent ++ [reqQ]).set s.sent.length ⟨#[111, 116, 104, 101, 114]⟩)[s.entries.length]? = some reqQ at h1
    rw [← hs] at h1
    simp [reqQ] at h1
  | 7, _ =>
    obtain ⟨hl, he⟩ := setE_get s { lastE with page := ⟨#[]⟩ }
    have h1 := (h.es _ hl).1.1
    change 1 ≤ (((addX s).setE s.entries.length { lastE with page := ⟨#[]⟩ }).entries[s.entries.length]).page.size at h1
    rw [he] at h1
    simp [ByteArray.size] at h1
theorem badM_pages (s : State) (hw : Wee s) (k : Nat) : PagesOk (badM s k) := by
  have h0 : ∀ x ∈ (addX s).owners, x.page.size ≤ 9223372036854775807 := fun x hx => by
    rcases List.mem_append.1 hx with hx | hx
    · have := (hw.os x hx).1; omega
    · simp only [List.mem_singleton] at hx; subst hx; decide
  have h1 : ∀ x ∈ (addX s).entries, x.page.size ≤ 9223372036854775807 := fun x hx => by
    rcases List.mem_append.1 hx with hx | hx
    · have := (hw.es x hx).1; omega
    · simp only [List.mem_singleton] at hx; subst hx; decide
  have h2 : ((addX s).owners.getD 0 noOwner).page.size ≤ 9223372036854775807 := by
    rw [List.getD_eq_getElem?_getD]
    cases hq : (addX s).owners[0]? with
    | none => decide
    | some x => exact h0 x (List.mem_of_getElem? hq)
  have h3 : ∀ (i : Nat) (y : Entry), y.page.size ≤ 9223372036854775807 → ∀ x ∈ ((addX s).setE i y).entries, x.page.size ≤ 9223372036854775807 := fun i y hy x hx => by
    rcases List.mem_or_eq_of_mem_set hx with h | h
    · exact h1 x h
    · subst h; exact hy
  unfold badM
  split
  · refine ⟨fun x hx => ?_, h1⟩
    rcases List.mem_or_eq_of_mem_set hx with h | h
    · exact h0 x h
    · subst h; exact h2
  · refine ⟨fun x hx => ?_, h1⟩
    rcases List.mem_append.1 hx with hx | hx
    · exact h0 x hx
    · simp only [List.mem_singleton] at hx; subst hx; exact h2
  · exact ⟨h0, h3 _ _ (by decide)⟩
  · exact ⟨h0, h3 _ _ (by decide)⟩
  · exact ⟨h0, h3 _ _ (by decide)⟩
  · exact ⟨h0, h1⟩
  · exact ⟨h0, h1⟩
  · exact ⟨h0, h3 _ _ (by decide)⟩
end Go.Proofs.Ytaacafdlklnegaa
