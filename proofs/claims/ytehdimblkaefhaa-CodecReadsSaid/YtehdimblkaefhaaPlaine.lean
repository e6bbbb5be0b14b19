/-
  Whatever is read without an error is the encoding of the value: plain laws of what read returns.
-/
import Derived.Test.YtehdimblkaefhaaReadv
namespace Go.Proofs.Ytehdimblkaefhaa
open Go.RowKit
set_option linter.unusedVariables false

/-- What is written for a value of a kind. -/
def wOf (kind : Nat) (R : RVal) : List UInt8 :=
  match kind with
  | 0 => Kn.enc R.u
  | 1 => Kn.enc (Kn.zig R.n)
  | 2 => [if R.b then 1 else 0]
  | 3 => Kn.enc R.s.size ++ R.s.data.toList
  | _ => Kn.enc R.u

theorem rU_back (s : ByteArray) (p : Nat) (hp : p ≤ s.size) (he : (rU s p 0).2.2 = 0) :
    ∃ q : Nat, (rU s p 0).2.1 = q ∧ p ≤ q ∧ q ≤ s.size ∧ Kn.enc (rU s p 0).1 = (s.data.toList.drop p).take (q - p) := by
  have h1 := restOf_at s p hp
  have hb := Kn.numOf_bounds (s.data.toList.drop p)
  have hl : s.data.toList.length = s.size := by simp
  rw [List.length_drop, hl] at hb
  unfold rU at he ⊢
  rw [if_pos rfl, h1] at he ⊢
  by_cases h0 : (Kn.numOf (s.data.toList.drop p)).2 = 0
  · rw [if_pos h0] at he; simp at he
  · rw [if_neg h0] at he ⊢
    obtain ⟨h2, h3⟩ := Kn.numOf_back h0
    refine ⟨p + (Kn.numOf (s.data.toList.drop p)).2, by simp, by omega, by omega, ?_⟩
    rw [show p + (Kn.numOf (s.data.toList.drop p)).2 - p = (Kn.numOf (s.data.toList.drop p)).2 from by omega, h3]
theorem rC_back (s : ByteArray) (p : Nat) (m : Int) (hm : 0 ≤ m) (hp : p ≤ s.size) (he : (rC s p 0 m).2.2 = 0) :
    ∃ q : Nat, (rC s p 0 m).2.1 = q ∧ p ≤ q ∧ q ≤ s.size ∧ Kn.enc (rC s p 0 m).1 = (s.data.toList.drop p).take (q - p) ∧ ((rC s p 0 m).1 : Int) ≤ m := by
  have h1 := restOf_at s p hp
  have hb := Kn.numOf_bounds (s.data.toList.drop p)
  have hl : s.data.toList.length = s.size := by simp
  rw [List.length_drop, hl] at hb
  unfold rC at he ⊢
  rw [if_pos rfl, h1] at he ⊢
  by_cases h0 : (Kn.numOf (s.data.toList.drop p)).2 = 0
  · rw [if_pos h0] at he; simp at he
  · rw [if_neg h0] at he ⊢
    by_cases h5 : m.toNat < (Kn.numOf (s.data.toList.drop p)).1
    · rw [if_pos h5] at he; simp at he
    · rw [if_neg h5]
      obtain ⟨h2, h3⟩ := Kn.numOf_back h0
      refine ⟨p + (Kn.numOf (s.data.toList.drop p)).2, by simp, by omega, by omega, ?_, by simp only; omega⟩
      rw [show p + (Kn.numOf (s.data.toList.drop p)).2 - p = (Kn.numOf (s.data.toList.drop p)).2 from by omega, h3]
theorem rB_back (s : ByteArray) (p : Nat) (hp : p ≤ s.size) (he : (rB s p 0).2.2 = 0) :
    ∃ q : Nat, (rB s p 0).2.1 = q ∧ p ≤ q ∧ q ≤ s.size ∧ [if (rB s p 0).1 then 1 else 0] = (s.data.toList.drop p).take (q - p) := by
  have h1 := restOf_at s p hp
  have hl : s.data.toList.length = s.size := by simp
  cases hd : s.data.toList.drop p with
  | nil => simp [rB, h1, hd] at he
  | cons c r =>
    by_cases hc : 1 < c.toNat
    · simp [rB, h1, hd, hc] at he
    · have hR : rB s p 0 = (c.toNat == 1, (p : Int) + 1, 0) := by simp [rB, h1, hd, hc]
      rw [hR]
      have h2 := congrArg List.length hd
      rw [List.length_drop, hl, List.length_cons] at h2
      refine ⟨p + 1, by simp, by omega, by omega, ?_⟩
      rw [show p + 1 - p = 1 from by omega]
      simp only [List.take_succ_cons, List.take_zero, List.cons.injEq, and_true]
      by_cases h3 : c.toNat = 1
      · rw [if_pos (by simp [h3])]
        exact UInt8.toNat_inj.1 (by simp [h3])
      · rw [if_neg (by simpa using h3)]
        exact UInt8.toNat_inj.1 (by simp; omega)
theorem rS_back (s : ByteArray) (p : Nat) (hp : p ≤ s.size) (he : (rS s p 0).2.2 = 0) :
    ∃ q : Nat, (rS s p 0).2.1 = q ∧ p ≤ q ∧ q ≤ s.size ∧ Kn.enc (rS s p 0).1.size ++ (rS s p 0).1.data.toList = (s.data.toList.drop p).take (q - p) := by
  have h1 := restOf_at s p hp
  have hb := Kn.numOf_bounds (s.data.toList.drop p)
  have hl : s.data.toList.length = s.size := by simp
  have hz : (restOf s p).size = s.size - p := by
    have : (restOf s p).data.toList.length = (restOf s p).size := by simp
    rw [← this, h1, List.length_drop, hl]
  rw [List.length_drop, hl] at hb
  unfold rS at he ⊢
  rw [if_pos rfl, h1] at he ⊢
  by_cases h0 : (Kn.numOf (s.data.toList.drop p)).2 = 0 ∨ (restOf s p).size < (Kn.numOf (s.data.toList.drop p)).2 + (Kn.numOf (s.data.toList.drop p)).1
  · rw [if_pos h0] at he; simp at he
  · rw [if_neg h0]
    obtain ⟨h2, h3⟩ := Kn.numOf_back (l := s.data.toList.drop p) (by omega)
    have hes : ((restOf s p).extract (Kn.numOf (s.data.toList.drop p)).2 ((Kn.numOf (s.data.toList.drop p)).2 + (Kn.numOf (s.data.toList.drop p)).1)).size = (Kn.numOf (s.data.toList.drop p)).1 := by
      rw [ByteArray.size_extract]; omega
    refine ⟨p + ((Kn.numOf (s.data.toList.drop p)).2 + (Kn.numOf (s.data.toList.drop p)).1), by simp, by omega, by omega, ?_⟩
    simp only
    rw [hes, Lib.extract_data, h1, ← h3, show p + ((Kn.numOf (s.data.toList.drop p)).2 + (Kn.numOf (s.data.toList.drop p)).1) - p = (Kn.numOf (s.data.toList.drop p)).2 + (Kn.numOf (s.data.toList.drop p)).1 from by omega]
    rw [show (Kn.numOf (s.data.toList.drop p)).2 + (Kn.numOf (s.data.toList.drop p)).1 - (Kn.numOf (s.data.toList.drop p)).2 = (Kn.numOf (s.data.toList.drop p)).1 from by omega, List.take_add]
theorem read_back (s : ByteArray) (p kind : Nat) (m : Int) (hm : 0 ≤ m) (hk : kind < 5) (hp : p ≤ s.size) (he : (readR s p 0 kind m).e = 0) :
    ∃ q : Nat, (readR s p 0 kind m).p = q ∧ p ≤ q ∧ q ≤ s.size ∧ wOf kind (readR s p 0 kind m) = (s.data.toList.drop p).take (q - p) := by
  match kind, hk with
  | 0, _ => exact rU_back s p hp he
  | 1, _ =>
    obtain ⟨q, h1, h2, h3, h4⟩ := rU_back s p hp he
    exact ⟨q, h1, h2, h3, by rw [← h4]; simp [wOf, readR, Kn.zig_unzig]⟩
  | 2, _ => exact rB_back s p hp he
  | 3, _ => exact rS_back s p hp he
  | 4, _ =>
    obtain ⟨q, h1, h2, h3, h4, _⟩ := rC_back s p m hm hp he
    exact ⟨q, h1, h2, h3, h4⟩
theorem rC_lt (s : ByteArray) (p e m : Int) : (rC s p e m).1 < 18446744073709551616 := by
  have hb := Kn.numOf_bounds (restOf s p).data.toList
  unfold rC
  split
  · split
    · simp
    · split
      · simp
      · exact hb.2.2
  · simp
theorem read_bounds (s : ByteArray) (p e : Int) (kind : Nat) (m : Int) (hk : kind < 5) : (readR s p e kind m).u < 18446744073709551616 ∧ -9223372036854775808 ≤ (readR s p e kind m).n ∧ (readR s p e kind m).n < 9223372036854775808 := by
  match kind, hk with
  | 0, _ => exact ⟨rU_lt s p e, by simp [readR], by simp [readR]⟩
  | 1, _ => exact ⟨by simp [readR], (Kn.unzig_lo (rU_lt s p e)).1, (Kn.unzig_lo (rU_lt s p e)).2⟩
  | 2, _ => simp [readR]
  | 3, _ => simp [readR]
  | 4, _ => exact ⟨rC_lt s p e m, by simp [readR], by simp [readR]⟩
theorem read_err (s : ByteArray) (p : Int) (kind : Nat) (m : Int) (hk : kind < 5) : (readR s p 0 kind m).e = 0 ∨ (readR s p 0 kind m).e = 3 ∨ (readR s p 0 kind m).e = 5 := by
  match kind, hk with
  | 0, _ => simp only [readR, rU]; split <;> (try split) <;> simp
  | 1, _ => simp only [readR, rU]; split <;> (try split) <;> simp
  | 2, _ => simp only [readR, rB]; split <;> (try split) <;> (try split) <;> simp
  | 3, _ => simp only [readR, rS]; split <;> (try split) <;> simp
  | 4, _ => simp only [readR, rC]; split <;> (try split) <;> (try split) <;> simp

/-- A Reader and a Writer of our own, side by side. -/
structure Both (w1 w : World) (br bw : Nat) (v : Value) (bs : List UInt8) (s : ByteArray) (p e : Int) : Prop where
  wr : WrAt w bw 26 v bs
  rd : RdAt w br 32 s p e
  ne : bw ≠ br
  lo : w1.heap.size ≤ br
  lw : w1.heap.size ≤ bw
  own : ∀ k, v.ownBlock = some k → w1.heap.size ≤ k ∧ k ≠ br
  chg : Chg (fun _ => False) w1 w
section
variable {w1 w w' : World} {br bw : Nat} {v : Value} {bs : List UInt8} {s : ByteArray} {p e : Int}
theorem Both.reads {p' e' : Int} (h : Both w1 w br bw v bs s p e) (h1 : RdAt w' br 32 s p' e') (h2 : Chg (· = br) w w') : Both w1 w' br bw v bs s p' e' :=
  ⟨h.wr.chg h2 h.ne (fun k hk => (h.own k hk).2), h1, h.ne, h.lo, h.lw, h.own, h.chg.trans h2 (fun _ _ x => x) (fun i hi x => by have := h.lo; omega)⟩
theorem Both.keep (h : Both w1 w br bw v bs s p e) (hc : Chg (fun _ => False) w w') : Both w1 w' br bw v bs s p e :=
  ⟨h.wr.chg hc (fun x => x) (fun _ _ x => x), Chg.keep hc h.rd (fun x => x), h.ne, h.lo, h.lw, h.own, h.chg.trans' hc⟩
theorem Both.writes {v' : Value} {bs' : List UInt8} (h : Both w1 w br bw v bs s p e) (h1 : WrAt w' bw 26 v' bs') (h2 : WrFr w w' bw v v') : Both w1 w' br bw v' bs' s p e := by
  have hlt := lt_of_block h.rd
  refine ⟨h1, h2.chg.keep h.rd ?_, h.ne, h.lo, h.lw, ?_, h.chg.trans h2.chg (fun _ _ x => x) ?_⟩
  · rintro (x | x)
    · exact h.ne x.symm
    · exact (h.own br x).2 rfl
  · intro k hk
    rcases h2.row k hk with x | x
    · exact h.own k x
    · have := h.chg.size; exact ⟨by omega, by omega⟩
  · rintro i hi (x | x)
    · have := h.lw; omega
    · have := (h.own i x).1; omega
end
end Go.Proofs.Ytehdimblkaefhaa
