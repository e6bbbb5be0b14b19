/-
  What the statements of layer 53 share: a new state, awake; searches in lists of numbered requests.
-/
import Derived.Test.YtaacafdlklnegaaTikf
namespace Go.Proofs.Ytaacafdlklnegaa
open Go.RowKit
set_option linter.unusedVariables false

def newState : State := ⟨[], [], []⟩
theorem newState_own (w : World) : stateR.own w [.slice none 0 0, .slice none 0 0, .slice none 0 0] newState [] :=
  ⟨_, _, _, [], [], [], rfl, row_flat.2 ⟨_, rfl, RowAt.nil _ _ _, rfl⟩, ⟨_, [], [], rfl, RowAt.nil _ _ _, .nil, rfl⟩, row_flat.2 ⟨_, rfl, RowAt.nil _ _ _, rfl⟩, rfl⟩

theorem claim_bad (s : State) (page : ByteArray) (e : Int) (h : ¬ (1 ≤ page.size ∧ page.size ≤ 200)) : claimM s page e = (1, s) := by unfold claimM; rw [if_pos (.inl h)]
theorem claim_zero (s : State) (page : ByteArray) (e : Int) (h : e < 1) : claimM s page e = (1, s) := by unfold claimM; rw [if_pos (.inr h)]
theorem claim_first (page : ByteArray) (e : Int) (h : 1 ≤ page.size ∧ page.size ≤ 200) (he : 1 ≤ e) : claimM newState page e = (0, ⟨[⟨page, e⟩], [], []⟩) := by
  unfold claimM newState
  rw [if_neg (by rintro (x | x); exact x h; omega)]
  rfl
theorem claim_low (page : ByteArray) (e e' : Int) (L : List Entry) (S : List ByteArray) (h : 1 ≤ page.size ∧ page.size ≤ 200) (he : 1 ≤ e') (hlt : e' < e) : claimM ⟨[⟨page, e⟩], L, S⟩ page e' = (14, ⟨[⟨page, e⟩], L, S⟩) := by
  unfold claimM
  rw [if_neg (by rintro (x | x); exact x h; omega)]
  simp [findO, hlt]
theorem claim_next (page : ByteArray) (e e' : Int) (L : List Entry) (S : List ByteArray) (h : 1 ≤ page.size ∧ page.size ≤ 200) (he : 1 ≤ e') (hlt : e ≤ e') : claimM ⟨[⟨page, e⟩], L, S⟩ page e' = (0, ⟨[⟨page, e'⟩], L, S⟩) := by
  unfold claimM
  rw [if_neg (by rintro (x | x); exact x h; omega)]
  have : ¬ e' < e := by omega
  simp [findO, this]
theorem serves_one (page : ByteArray) (e : Int) (L : List Entry) (S : List ByteArray) : servesB ⟨[⟨page, e⟩], L, S⟩ page e = true := by
  simp [servesB, findO]
theorem serves_not (page : ByteArray) (e e' : Int) (L : List Entry) (S : List ByteArray) (h : e' ≠ e) : servesB ⟨[⟨page, e⟩], L, S⟩ page e' = false := by
  simp [servesB, findO]; omega
theorem ask_first (page req : ByteArray) (e n : Int) (hn : 1 ≤ n) : askM ⟨[⟨page, e⟩], [], []⟩ page e n req = (0, ⟨[⟨page, e⟩], [⟨page, n, req, [], 0, false, false⟩], [req]⟩) := by
  unfold askM
  rw [serves_one, if_neg (by simp), if_neg (by omega)]
  simp [findE, opens]

/-- Requests of one page with the numbers k + 1, k + 2 .. -/
def Nums (page : ByteArray) (k : Nat) (l : List Entry) : Prop := ∀ j (h : j < l.length), l[j].page = page ∧ l[j].number = (k + j + 1 : Nat)
theorem findE_nums (page : ByteArray) (n : Int) : ∀ (l : List Entry) (k : Nat), Nums page k l → findE page n l k = if (k : Int) + 1 ≤ n ∧ n ≤ (k : Int) + (l.length : Int) then some (n - 1).toNat else none
  | [], k, _ => by
    rw [if_neg (by simp; omega)]; rfl
  | x :: l, k, h => by
    obtain ⟨h1, h2⟩ := h 0 (by simp)
    simp only [List.getElem_cons_zero] at h1 h2
    have hl : Nums page (k + 1) l := fun j hj => by
      have := h (j + 1) (by simp; omega)
      simp only [List.getElem_cons_succ] at this
      rw [this.2]
      exact ⟨this.1, by omega⟩
    rw [findE, h1, h2, findE_nums page n l (k + 1) hl]
    by_cases hn : n = ((k + 0 + 1 : Nat) : Int)
    · rw [if_pos (by simp [hn]), if_pos (by simp; omega)]
      congr 1; omega
    · rw [if_neg (by simp; omega)]
      by_cases hb : ((k + 1 : Nat) : Int) + 1 ≤ n ∧ n ≤ ((k + 1 : Nat) : Int) + (l.length : Int)
      · rw [if_pos hb, if_pos (by simp; omega)]
      · rw [if_neg hb, if_neg (by simp; omega)]
theorem Nums.set {page : ByteArray} {k : Nat} {l : List Entry} (h : Nums page k l) (i : Nat) (x : Entry) (hx : ∀ hi : i < l.length, x.page = l[i].page ∧ x.number = l[i].number) : Nums page k (l.set i x) := by
  intro j hj
  rw [List.length_set] at hj
  rw [List.getElem_set]
  split
  · rename_i he
    subst he
    rw [(hx hj).1, (hx hj).2]
    exact h i hj
  · exact h j hj
theorem opens_length (s : State) (page : ByteArray) : (opens s page).length = s.entries.countP (isOpen page) := by
  rw [opens, List.length_map, List.countP_eq_length_filter]

set_option maxHeartbeats 1600000 in
set_option maxRecDepth 100000 in
theorem awake_any (w : World) : Calls Try.prog 11 #[] w fun e w' => e = .returned (.bool true) ∧ Chg (fun _ => False) w w' := by
  have HN : Hid ((1 ≤ (⟨#[112]⟩ : ByteArray).size ∧ (⟨#[112]⟩ : ByteArray).size ≤ 200)) := Lib.hid (by decide)
  go_enter Try.func11, Try.ntmps11
  have H1 := Own.made (A := stateR) w 27 _ newState (newState_own w)
  go_wp2_with fail
  refine (claim_any _ _ 0 newState [] ⟨#[112]⟩ 2 H1.here (by decide) ⟨by decide⟩).mono ?_
  rintro e w2 ⟨rfl, hp⟩
  rw [claim_first _ _ HN.out (by decide)] at hp ⊢
  obtain ⟨F2, H2⟩ := hp.own H1
  go_wp2_with fail
  refine (claim_any _ _ 0 _ _ ⟨#[112]⟩ 1 H2.here (by decide) ⟨by decide⟩).mono ?_
  rintro e w3 ⟨rfl, hp⟩
  rw [claim_low _ _ _ _ _ HN.out (by decide) (by decide)] at hp ⊢
  obtain ⟨F3, H3⟩ := hp.own H2
  go_wp2_with fail
  refine (ask_any _ _ 0 _ _ ⟨#[112]⟩ 2 1 ⟨#[114]⟩ H3.here ⟨by decide⟩ ⟨by decide⟩).mono ?_
  rintro e w4 ⟨rfl, hp⟩
  rw [ask_first _ _ _ _ (by decide)] at hp ⊢
  obtain ⟨F4, H4⟩ := hp.own H3
  obtain ⟨v0, v1, v2, c0, c1, c2, F0, F1, F2', _, h1, h2, -⟩ := stateCells H4.here
  obtain ⟨xs, Fs, hopen⟩ := Rep.opened h2
  obtain ⟨a, cap, rfl, hc1, hc2⟩ := hopen.val
  clear H1 H2 H3 h1 h2 hopen
  go_wp2_with fail
  go_ret
  exact ⟨rfl, H4.chg⟩
end Go.Proofs.Ytaacafdlklnegaa
