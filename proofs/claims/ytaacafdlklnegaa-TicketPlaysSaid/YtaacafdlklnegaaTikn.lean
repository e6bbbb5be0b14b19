/-
  The statements' calls on the network's side: what do answers; sizes.
-/
import Derived.Test.YtaacafdlklnegaaTikm
namespace Go.Proofs.Ytaacafdlklnegaa
open Go.RowKit
set_option linter.unusedVariables false

structure Told where
  e : Int
  l : List ByteArray
  done : Bool
  n : List Int
def COp.name (o : COp) : ByteArray := pageN (o.page % 4).toNat
/-- What a call answers, and the state behind it. -/
def doM (s : State) (o : COp) : Told × State :=
  match (o.kind % 8).toNat with
  | 0 => (⟨(claimM s o.name o.epoch).1, [], false, []⟩, (claimM s o.name o.epoch).2)
  | 1 => (⟨(askM s o.name o.epoch o.number o.text).1, [], false, []⟩, (askM s o.name o.epoch o.number o.text).2)
  | 2 => (⟨(feedM s o.name o.number o.text).1, [], false, []⟩, (feedM s o.name o.number o.text).2)
  | 3 => (⟨(endM s o.name o.number).1, [], false, []⟩, (endM s o.name o.number).2)
  | 4 => (⟨(takeM s o.name o.epoch o.number o.at_).2.2, (takeM s o.name o.epoch o.number o.at_).1, (takeM s o.name o.epoch o.number o.at_).2.1, []⟩, s)
  | 5 => (⟨(ackM s o.name o.epoch o.number o.at_).1, [], false, []⟩, (ackM s o.name o.epoch o.number o.at_).2)
  | 6 => (⟨(closeM s o.name o.epoch o.number).1, [], false, []⟩, (closeM s o.name o.epoch o.number).2)
  | _ => (⟨0, [], false, openL s o.name⟩, s)
/-- All lengths are at most n. -/
structure Small (s : State) (n : Nat) : Prop where
  owners : s.owners.length ≤ n
  entries : s.entries.length ≤ n
  sent : s.sent.length ≤ n
  each : ∀ x ∈ s.entries, 0 ≤ x.acked ∧ x.acked + (x.pieces.length : Int) ≤ (n : Int)
theorem Small.mono {s : State} {n m : Nat} (h : Small s n) (hm : n ≤ m) : Small s m :=
  ⟨by have := h.owners; omega, by have := h.entries; omega, by have := h.sent; omega, fun x hx => by have := h.each x hx; omega⟩
theorem Small.ok {s : State} {n : Nat} (h : Small s n) (hn : n ≤ 1000) : ∀ x ∈ s.entries, EntryOk x := fun x hx => by
  have := h.each x hx
  exact ⟨⟨by omega⟩, this.1, ⟨by omega⟩⟩
theorem Small.setE {s : State} {n : Nat} (h : Small s n) (j : Nat) (x : Entry) (hx : 0 ≤ x.acked ∧ x.acked + (x.pieces.length : Int) ≤ (n : Int)) : Small (s.setE j x) n :=
  ⟨h.owners, by show (s.entries.set j x).length ≤ n; rw [List.length_set]; exact h.entries, h.sent, fun y hy => by
    rcases List.mem_or_eq_of_mem_set hy with h1 | h1
    · exact h.each y h1
    · rw [h1]; exact hx⟩
theorem Small.claim {s : State} {n : Nat} (h : Small s n) (page : ByteArray) (e : Int) : Small (claimM s page e).2 (n + 1) := by
  have h1 := h.mono (Nat.le_succ n)
  unfold claimM
  split
  · exact h1
  · split
    · exact ⟨by have := h.owners; simp; omega, h1.entries, h1.sent, h1.each⟩
    · split
      · exact h1
      · exact ⟨by show (s.owners.set _ _).length ≤ _; rw [List.length_set]; exact h1.owners, h1.entries, h1.sent, h1.each⟩
theorem Small.ask {s : State} {n : Nat} (h : Small s n) (page : ByteArray) (e k : Int) (r : ByteArray) : Small (askM s page e k r).2 (n + 1) := by
  have h1 := h.mono (Nat.le_succ n)
  unfold askM
  split
  · exact h1
  · split
    · exact h1
    · split
      · split <;> exact h1
      · split
        · exact h1
        · refine ⟨h1.owners, by have := h.entries; simp; omega, by have := h.sent; simp; omega, fun x hx => ?_⟩
          rcases List.mem_append.1 hx with hx | hx
          · exact h1.each x hx
          · simp only [List.mem_singleton] at hx; subst hx; simp; omega
theorem Small.get {s : State} {n j : Nat} (h : Small s n) (hj : j < s.entries.length) : 0 ≤ (s.entries.getD j noEntry).acked ∧ (s.entries.getD j noEntry).acked + ((s.entries.getD j noEntry).pieces.length : Int) ≤ (n : Int) := by
  simp only [List.getD_eq_getElem?_getD, List.getElem?_eq_getElem hj, Option.getD_some]
  exact h.each _ (List.getElem_mem hj)
theorem Small.feed {s : State} {n : Nat} (h : Small s n) (page : ByteArray) (k : Int) (x : ByteArray) : Small (feedM s page k x).2 (n + 1) := by
  have h1 := h.mono (Nat.le_succ n)
  unfold feedM
  cases hr : (runningM s page k).1 with
  | none => exact h1
  | some j =>
    obtain ⟨hj, -⟩ := runningM_some hr
    have := h.get hj
    dsimp only
    split
    · exact h1
    · refine h1.setE _ _ ⟨this.1, ?_⟩
      simp only [List.length_append, List.length_singleton]; omega
theorem Small.end_ {s : State} {n : Nat} (h : Small s n) (page : ByteArray) (k : Int) : Small (endM s page k).2 (n + 1) := by
  have h1 := h.mono (Nat.le_succ n)
  unfold endM
  cases hr : (runningM s page k).1 with
  | none => exact h1
  | some j =>
    obtain ⟨hj, -⟩ := runningM_some hr
    exact h1.setE _ _ (h1.get hj)
theorem Small.close {s : State} {n : Nat} (h : Small s n) (page : ByteArray) (e k : Int) : Small (closeM s page e k).2 (n + 1) := by
  have h1 := h.mono (Nat.le_succ n)
  unfold closeM
  cases hr : (openM s page e k).1 with
  | none => exact h1
  | some j =>
    obtain ⟨hj, -⟩ := openM_some hr
    have := h1.get hj
    refine h1.setE _ _ ?_
    simp only [List.length_nil]; omega
theorem Small.ack {s : State} {n : Nat} (h : Small s n) (page : ByteArray) (e k ix : Int) : Small (ackM s page e k ix).2 (n + 1) := by
  have h1 := h.mono (Nat.le_succ n)
  unfold ackM
  cases hr : (fromM s page e k ix).1 with
  | none => exact h1
  | some j =>
    obtain ⟨hj, -, h3, h4, -⟩ := fromM_some hr
    have := h1.get hj
    simp only [List.getD_eq_getElem?_getD, List.getElem?_eq_getElem hj, Option.getD_some] at this ⊢
    refine h1.setE _ _ ⟨by dsimp only; omega, ?_⟩
    simp only [List.length_drop]; omega
theorem Small.do_ {s : State} {n : Nat} (h : Small s n) (o : COp) : Small (doM s o).2 (n + 1) := by
  unfold doM
  split
  · exact h.claim _ _
  · exact h.ask _ _ _ _
  · exact h.feed _ _ _
  · exact h.end_ _ _
  · exact h.mono (Nat.le_succ n)
  · exact h.ack _ _ _ _
  · exact h.close _ _ _
  · exact h.mono (Nat.le_succ n)
end Go.Proofs.Ytaacafdlklnegaa
