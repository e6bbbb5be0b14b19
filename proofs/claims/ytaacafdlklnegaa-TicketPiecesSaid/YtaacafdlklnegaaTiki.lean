/-
  One request of one page, as TicketPieces uses it: what the calls do with it.
-/
import Derived.Test.YtaacafdlklnegaaTikh
namespace Go.Proofs.Ytaacafdlklnegaa
open Go.RowKit
set_option linter.unusedVariables false

def pageP : ByteArray := ⟨#[112]⟩
def reqS : ByteArray := ⟨#[114]⟩
def oneE (L : List ByteArray) (a : Nat) (en cl : Bool) : Entry := ⟨pageP, 9, reqS, L, a, en, cl⟩
def oneS (e : Int) (L : List ByteArray) (a : Nat) (en cl : Bool) : State := ⟨[⟨pageP, e⟩], [oneE L a en cl], [reqS]⟩
theorem pageP_ok : 1 ≤ pageP.size ∧ pageP.size ≤ 200 := by decide
theorem one_find (L : List ByteArray) (a : Nat) (en cl : Bool) : findE pageP 9 [oneE L a en cl] 0 = some 0 := by
  simp [findE, oneE]
theorem one_get (e : Int) (L : List ByteArray) (a : Nat) (en cl : Bool) : (oneS e L a en cl).entries.getD 0 noEntry = oneE L a en cl := rfl
theorem one_first : claimM newState pageP 1 = (0, ⟨[⟨pageP, 1⟩], [], []⟩) := claim_first _ _ pageP_ok (by decide)
theorem one_asked : askM ⟨[⟨pageP, 1⟩], [], []⟩ pageP 1 9 reqS = (0, oneS 1 [] 0 false false) := ask_first _ _ _ _ (by decide)
theorem one_claim (e : Int) (he : 1 ≤ e) (L : List ByteArray) (a : Nat) (en cl : Bool) : claimM (oneS e L a en cl) pageP (e + 1) = (0, oneS (e + 1) L a en cl) := claim_next _ _ _ _ _ pageP_ok (by omega) (by omega)
theorem one_again (e : Int) (L : List ByteArray) (a : Nat) (en cl : Bool) : askM (oneS e L a en cl) pageP e 9 reqS = (0, oneS e L a en cl) := by
  unfold askM
  rw [show servesB (oneS e L a en cl) pageP e = true from serves_one _ _ _ _, if_neg (by simp), if_neg (by decide), show findE pageP 9 (oneS e L a en cl).entries 0 = some 0 from one_find _ _ _ _]
  simp only
  rw [one_get, if_pos (by simp [oneE])]
theorem one_feed (e : Int) (L : List ByteArray) (a : Nat) (x : ByteArray) : feedM (oneS e L a false false) pageP 9 x = (0, oneS e (L ++ [x]) a false false) := by
  have hr : runningM (oneS e L a false false) pageP 9 = (some 0, 0) := by
    unfold runningM
    rw [show findE pageP 9 (oneS e L a false false).entries 0 = some 0 from one_find _ _ _ _]
    rfl
  unfold feedM
  rw [hr]
  rfl
theorem one_end (e : Int) (L : List ByteArray) (a : Nat) : endM (oneS e L a false false) pageP 9 = (0, oneS e L a true false) := by
  have hr : runningM (oneS e L a false false) pageP 9 = (some 0, 0) := by
    unfold runningM
    rw [show findE pageP 9 (oneS e L a false false).entries 0 = some 0 from one_find _ _ _ _]
    rfl
  unfold endM
  rw [hr]
  rfl
theorem one_open (e : Int) (L : List ByteArray) (a : Nat) (en : Bool) : openM (oneS e L a en false) pageP e 9 = (some 0, 0) := by
  unfold openM
  rw [show servesB (oneS e L a en false) pageP e = true from serves_one _ _ _ _, if_neg (by simp), show findE pageP 9 (oneS e L a en false).entries 0 = some 0 from one_find _ _ _ _]
  rfl
theorem one_old (e e' : Int) (h : e' ≠ e) (L : List ByteArray) (a : Nat) (en cl : Bool) (ix : Int) : takeM (oneS e L a en cl) pageP e' 9 ix = ([], false, 14) := by
  have ho : openM (oneS e L a en cl) pageP e' 9 = (none, 14) := by
    unfold openM
    rw [show servesB (oneS e L a en cl) pageP e' = false from serves_not _ _ _ _ _ h, if_pos rfl]
  have hf : fromM (oneS e L a en cl) pageP e' 9 ix = (none, 14) := by
    unfold fromM
    rw [ho]
  unfold takeM
  rw [hf]
theorem one_shut (e : Int) (L : List ByteArray) (a : Nat) (en : Bool) (ix : Int) : takeM (oneS e L a en true) pageP e 9 ix = ([], false, 6) := by
  have ho : openM (oneS e L a en true) pageP e 9 = (none, 6) := by
    unfold openM
    rw [show servesB (oneS e L a en true) pageP e = true from serves_one _ _ _ _, if_neg (by simp), show findE pageP 9 (oneS e L a en true).entries 0 = some 0 from one_find _ _ _ _]
    rfl
  have hf : fromM (oneS e L a en true) pageP e 9 ix = (none, 6) := by
    unfold fromM
    rw [ho]
  unfold takeM
  rw [hf]
theorem one_from (e : Int) (L : List ByteArray) (a : Nat) (en : Bool) (d : Nat) (h : d ≤ L.length) : fromM (oneS e L a en false) pageP e 9 ((a : Int) + (d : Int)) = (some 0, 0) := by
  unfold fromM
  rw [one_open]
  simp only
  rw [one_get, if_neg (by simp only [oneE]; omega)]
theorem one_take (e : Int) (L : List ByteArray) (a : Nat) (en : Bool) : takeM (oneS e L a en false) pageP e 9 (a : Int) = (L, en, 0) := by
  have hf := one_from e L a en 0 (Nat.zero_le _)
  rw [show ((a : Int) + ((0 : Nat) : Int)) = (a : Int) from by omega] at hf
  unfold takeM
  rw [hf]
  simp only
  rw [one_get]
  simp [oneE]
theorem one_ack (e : Int) (L : List ByteArray) (a : Nat) (en : Bool) : ackM (oneS e L a en false) pageP e 9 ((a : Int) + (L.length : Int)) = (0, oneS e [] (a + L.length) en en) := by
  have hf := one_from e L a en L.length (Nat.le_refl _)
  unfold ackM
  rw [hf]
  simp only
  rw [one_get]
  have h1 : (oneE L a en false).pieces.drop ((a : Int) + (L.length : Int) - (oneE L a en false).acked).toNat = [] := by
    simp only [oneE]
    rw [show ((a : Int) + (L.length : Int) - (a : Int)).toNat = L.length from by omega]
    simp
  rw [h1]
  simp [oneS, State.setE, oneE]
theorem one_opens (e : Int) (L : List ByteArray) (a : Nat) (en cl : Bool) : (openL (oneS e L a en cl) pageP).length = if cl = true then 0 else 1 := by
  rw [openL, sorted_length, opens_length]
  cases cl <;> simp [oneS, oneE, isOpen]
theorem one_few (e : Int) (L : List ByteArray) (a : Nat) (en cl : Bool) : Few (oneS e L a en cl).entries.length := ⟨by show 1 < 1000000000; decide⟩
theorem one_fewS (e : Int) (L : List ByteArray) (a : Nat) (en cl : Bool) : Few (oneS e L a en cl).sent.length := ⟨by show 1 < 1000000000; decide⟩
theorem one_fewO (e : Int) (L : List ByteArray) (a : Nat) (en cl : Bool) : Few (oneS e L a en cl).owners.length := ⟨by show 1 < 1000000000; decide⟩
theorem one_all (e : Int) (L : List ByteArray) (a : Nat) (en cl : Bool) (hL : L.length < 1000000000) (ha : a < 1000000000) : ∀ x ∈ (oneS e L a en cl).entries, EntryOk x := by
  intro x hx
  simp only [oneS, List.mem_singleton] at hx
  subst hx
  exact ⟨⟨hL⟩, by simp [oneE], ⟨by simp [oneE]; omega⟩⟩
theorem one_pieces (e : Int) (L : List ByteArray) (a : Nat) (en cl : Bool) (hL : L.length < 1000000000) : ∀ x ∈ (oneS e L a en cl).entries, Few x.pieces.length := by
  intro x hx
  simp only [oneS, List.mem_singleton] at hx
  subst hx
  exact ⟨hL⟩
end Go.Proofs.Ytaacafdlklnegaa
