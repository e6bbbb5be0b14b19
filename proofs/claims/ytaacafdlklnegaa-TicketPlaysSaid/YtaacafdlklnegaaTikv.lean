/-
  An old epoch can do nothing (plain laws of layer 53).
-/
import Derived.Test.YtaacafdlklnegaaTiku
namespace Go.Proofs.Ytaacafdlklnegaa
open Go.RowKit
set_option linter.unusedVariables false

theorem findO_append (page : ByteArray) (m : List Owner) : ∀ (l : List Owner) (k : Nat), findO page (l ++ m) k = match findO page l k with | some i => some i | none => findO page m (k + l.length)
  | [], k => by simp [findO]
  | x :: l, k => by
    rw [List.cons_append, findO, findO]
    split
    · rfl
    · rw [findO_append page m l (k + 1), List.length_cons, show k + 1 + l.length = k + (l.length + 1) from by omega]
theorem findO_set (page : ByteArray) (x : Owner) : ∀ (l : List Owner) (k i : Nat), (∀ h : i < l.length, x.page = l[i].page) → findO page (l.set i x) k = findO page l k
  | [], k, i, _ => by simp
  | y :: l, k, 0, h => by
    have h1 := h (by simp)
    simp only [List.getElem_cons_zero] at h1
    rw [List.set_cons_zero, findO, findO, h1]
  | y :: l, k, i + 1, h => by
    rw [List.set_cons_succ, findO, findO, findO_set page x l (k + 1) i (fun hi => by have h2 := h (by simpa using hi); rw [List.getElem_cons_succ] at h2; exact h2)]
/-- The epoch that owns a page, or 0. -/
def ownEp (s : State) (page : ByteArray) : Int := match findO page s.owners 0 with | none => 0 | some i => (s.owners.getD i noOwner).epoch
theorem ownEp_claim (s : State) (p q : ByteArray) (e : Int) : ownEp (claimM s q e).2 p = if q = p ∧ (claimM s q e).1 = 0 then e else ownEp s p := by
  unfold claimM
  split
  · rw [if_neg (by simp)]
  · split
    · rename_i hf
      unfold ownEp
      dsimp only
      rw [findO_append]
      by_cases hqp : q = p
      · subst hqp
        rw [hf, if_pos ⟨rfl, rfl⟩]
        simp [findO]
      · rw [if_neg (fun h => hqp h.1)]
        have hne : ¬ (q.toList == p.toList) = true := fun h => hqp (bytesEq.1 h)
        cases hp : findO p s.owners 0 with
        | none => simp [findO, hne]
        | some i =>
          have hi := findO_lt _ _ _ _ hp
          simp only
          rw [List.getD_eq_getElem?_getD, List.getD_eq_getElem?_getD, List.getElem?_append_left (by omega)]
    · rename_i i hf
      have hi := findO_lt _ _ _ _ hf
      have hi' : i < s.owners.length := by omega
      have hg : s.owners.getD i noOwner = s.owners[i] := by simp [List.getD_eq_getElem?_getD, hi']
      simp only [hg]
      split
      · rw [if_neg (by simp)]
      · unfold ownEp
        dsimp only
        rw [findO_set p _ _ _ _ (fun _ => rfl)]
        obtain ⟨_, _, hpg⟩ := findO_some hf
        simp only [Nat.sub_zero] at hpg
        by_cases hqp : q = p
        · subst hqp
          rw [hf, if_pos ⟨rfl, rfl⟩]
          simp [List.getD_eq_getElem?_getD, hi']
        · rw [if_neg (fun h => hqp h.1)]
          cases hp : findO p s.owners 0 with
          | none => rfl
          | some j =>
            simp only
            obtain ⟨_, _, hpj⟩ := findO_some hp
            simp only [Nat.sub_zero] at hpj
            have hij : i ≠ j := by
              rintro rfl
              exact hqp (hpg.symm.trans hpj)
            rw [List.getD_eq_getElem?_getD, List.getD_eq_getElem?_getD, List.getElem?_set, if_neg hij]
theorem owners_ask (s : State) (p : ByteArray) (e n : Int) (r : ByteArray) : (askM s p e n r).2.owners = s.owners := by
  unfold askM
  split
  · rfl
  · split
    · rfl
    · split
      · split <;> rfl
      · split <;> rfl
theorem owners_do (s : State) (o : COp) (h : (o.kind % 8).toNat ≠ 0) : (doM s o).2.owners = s.owners := by
  unfold doM
  split
  · rename_i h0; exact absurd h0 h
  · exact owners_ask _ _ _ _ _
  · show (feedM s o.name o.number o.text).2.owners = _
    unfold feedM
    split
    · rfl
    · split <;> rfl
  · show (endM s o.name o.number).2.owners = _
    unfold endM
    split <;> rfl
  · rfl
  · show (ackM s o.name o.epoch o.number o.at_).2.owners = _
    unfold ackM
    split <;> rfl
  · show (closeM s o.name o.epoch o.number).2.owners = _
    unfold closeM
    split <;> rfl
  · rfl
theorem ownEp_do (s : State) (o : COp) : ownEp (doM s o).2 (pageN 0) = if (o.page % 4).toNat = 0 ∧ (o.kind % 8).toNat = 0 ∧ (doM s o).1.e = 0 then o.epoch else ownEp s (pageN 0) := by
  by_cases h : (o.kind % 8).toNat = 0
  · have hd : doM s o = (⟨(claimM s o.name o.epoch).1, [], false, []⟩, (claimM s o.name o.epoch).2) := by unfold doM; rw [h]; rfl
    rw [hd]
    dsimp only
    rw [ownEp_claim]
    have hn : o.name = pageN 0 ↔ (o.page % 4).toNat = 0 := by
      unfold COp.name
      exact ⟨fun e => pageN_inj (by omega) (by omega) e, fun e => by rw [e]⟩
    by_cases hc : (o.page % 4).toNat = 0 ∧ (claimM s o.name o.epoch).1 = 0
    · rw [if_pos ⟨hn.2 hc.1, hc.2⟩, if_pos ⟨hc.1, h, hc.2⟩]
    · rw [if_neg (fun x => hc ⟨hn.1 x.1, x.2⟩), if_neg (fun x => hc ⟨x.1, x.2.2⟩)]
  · rw [if_neg (fun x => h x.2.1)]
    unfold ownEp
    rw [owners_do s o h]
/-- What a lower epoch gets. -/
structure Old (s : State) (p : ByteArray) (e : Int) : Prop where
  take : ∀ n ix, takeM s p e n ix = ([], false, 14)
  ask : ∀ n r, askM s p e n r = (14, s)
  ack : ∀ n ix, ackM s p e n ix = (14, s)
  close : ∀ n, closeM s p e n = (14, s)
  claim : claimM s p e = (14, s)
theorem old_of (s : State) (p : ByteArray) (e : Int) (hp : 1 ≤ p.size ∧ p.size ≤ 200) (h1 : 1 ≤ e) (h2 : e < ownEp s p) : Old s p e := by
  unfold ownEp at h2
  cases hf : findO p s.owners 0 with
  | none => rw [hf] at h2; simp only at h2; omega
  | some i =>
    rw [hf] at h2
    simp only at h2
    have hs : servesB s p e = false := by
      unfold servesB
      rw [hf]
      simp only [beq_eq_false_iff_ne]
      omega
    have ho : ∀ n, openM s p e n = (none, 14) := fun n => by unfold openM; rw [if_pos hs]
    have hfr : ∀ n ix, fromM s p e n ix = (none, 14) := fun n ix => by unfold fromM; rw [ho n]
    refine ⟨fun n ix => ?_, fun n r => ?_, fun n ix => ?_, fun n => ?_, ?_⟩
    · unfold takeM; rw [hfr n ix]
    · unfold askM; rw [if_pos hs]
    · unfold ackM; rw [hfr n ix]
    · unfold closeM; rw [ho n]
    · unfold claimM
      rw [if_neg (by rintro (x | x); exact x hp; omega), hf]
      simp only
      rw [if_pos h2]
end Go.Proofs.Ytaacafdlklnegaa
