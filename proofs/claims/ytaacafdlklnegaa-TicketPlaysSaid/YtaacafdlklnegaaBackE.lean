/-
  Whatever is read without an error is the encoding of the value: one reading.
-/
import Derived.Test.YtaacafdlklnegaaOwnE
namespace Go.Proofs.Ytaacafdlklnegaa
open Go.RowKit
set_option linter.unusedVariables false

theorem rU_back (s : ByteArray) (p : Nat) (hp : p ≤ s.size) (he : (rU s p 0).2.2 = 0) :
    ∃ q : Nat, (rU s p 0).2.1 = q ∧ p ≤ q ∧ q ≤ s.size ∧ Kn.enc (rU s p 0).1 = (s.data.toList.drop p).take (q - p) := by
  have h1 := restOf_at s p hp
  have hb := Kn.numOf_bounds (s.data.toList.drop p)
  have hl : s.data.toList.length = s.size := by simp
  rw [List.length_drop, hl] at hb
  unfold rU at he ⊢
  rw [if_pos rfl, h1] at he ⊢
  by_cases h0 : (Kn.numOf (s.data.toList.drop p)).2 = 0
  · rw [if_pos h0] at he; simp at he
  · rw [if_neg h0] at he ⊢
    obtain ⟨h2, h3⟩ := Kn.numOf_back h0
    refine ⟨p + (Kn.numOf (s.data.toList.drop p)).2, by simp, by omega, by omega, ?_⟩
    rw [show p + (Kn.numOf (s.data.toList.drop p)).2 - p = (Kn.numOf (s.data.toList.drop p)).2 from by omega, h3]
theorem rC_back (s : ByteArray) (p : Nat) (m : Int) (hm : 0 ≤ m) (hp : p ≤ s.size) (he : (rC s p 0 m).2.2 = 0) :
    ∃ q : Nat, (rC s p 0 m).2.1 = q ∧ p ≤ q ∧ q ≤ s.size ∧ Kn.enc (rC s p 0 m).1 = (s.data.toList.drop p).take (q - p) ∧ ((rC s p 0 m).1 : Int) ≤ m := by
  have h1 := restOf_at s p hp
  have hb := Kn.numOf_bounds (s.data.toList.drop p)
  have hl : s.data.toList.length = s.size := by simp
  rw [List.length_drop, hl] at hb
  unfold rC at he ⊢
  rw [if_pos rfl, h1] at he ⊢
  by_cases h0 : (Kn.numOf (s.data.toList.drop p)).2 = 0
  · rw [if_pos h0] at he; simp at he
  · rw [if_neg h0] at he ⊢
    by_cases h5 : m.toNat < (Kn.numOf (s.data.toList.drop p)).1
    · rw [if_pos h5] at he; simp at he
    · rw [if_neg h5]
      obtain ⟨h2, h3⟩ := Kn.numOf_back h0
      refine ⟨p + (Kn.numOf (s.data.toList.drop p)).2, by simp, by omega, by omega, ?_, by simp only; omega⟩
      rw [show p + (Kn.numOf (s.data.toList.drop p)).2 - p = (Kn.numOf (s.data.toList.drop p)).2 from by omega, h3]
theorem rB_back (s : ByteArray) (p : Nat) (hp : p ≤ s.size) (he : (rB s p 0).2.2 = 0) :
    ∃ q : Nat, (rB s p 0).2.1 = q ∧ p ≤ q ∧ q ≤ s.size ∧ [if (rB s p 0).1 then 1 else 0] = (s.data.toList.drop p).take (q - p) := by
  have h1 := restOf_at s p hp
  have hl : s.data.toList.length = s.size := by simp
  cases hd : s.data.toList.drop p with
  | nil => simp [rB, h1, hd] at he
  | cons c r =>
    by_cases hc : 1 < c.toNat
    · simp [rB, h1, hd, hc] at he
    · have hR : rB s p 0 = (c.toNat == 1, (p : Int) + 1, 0) := by simp [rB, h1, hd, hc]
      rw [hR]
      have h2 := congrArg List.length hd
      rw [List.length_drop, hl, List.length_cons] at h2
      refine ⟨p + 1, by simp, by omega, by omega, ?_⟩
      rw [show p + 1 - p = 1 from by omega]
      simp only [List.take_succ_cons, List.take_zero, List.cons.injEq, and_true]
      by_cases h3 : c.toNat = 1
      · rw [if_pos (by simp [h3])]
        exact UInt8.toNat_inj.1 (by simp [h3])
      · rw [if_neg (by simpa using h3)]
        exact UInt8.toNat_inj.1 (by simp; omega)
theorem rS_back (s : ByteArray) (p : Nat) (hp : p ≤ s.size) (he : (rS s p 0).2.2 = 0) :
    ∃ q : Nat, (rS s p 0).2.1 = q ∧ p ≤ q ∧ q ≤ s.size ∧ Kn.enc (rS s p 0).1.size ++ (rS s p 0).1.data.toList = (s.data.toList.drop p).take (q - p) := by
  have h1 := restOf_at s p hp
  have hb := Kn.numOf_bounds (s.data.toList.drop p)
  have hl : s.data.toList.length = s.size := by simp
  have hz : (restOf s p).size = s.size - p := by
    have : (restOf s p).data.toList.length = (restOf s p).size := by simp
    rw [← this, h1, List.length_drop, hl]
  rw [List.length_drop, hl] at hb
  unfold rS at he ⊢
  rw [if_pos rfl, h1] at he ⊢
  by_cases h0 : (Kn.numOf (s.data.toList.drop p)).2 = 0 ∨ (restOf s p).size < (Kn.numOf (s.data.toList.drop p)).2 + (Kn.numOf (s.data.toList.drop p)).1
  · rw [if_pos h0] at he; simp at he
  · rw [if_neg h0]
    obtain ⟨h2, h3⟩ := Kn.numOf_back (l := s.data.toList.drop p) (by omega)
    have hes : ((restOf s p).extract (Kn.numOf (s.data.toList.drop p)).2 ((Kn.numOf (s.data.toList.drop p)).2 + (Kn.numOf (s.data.toList.drop p)).1)).size = (Kn.numOf (s.data.toList.drop p)).1 := by
      rw [ByteArray.size_extract]; omega
    refine ⟨p + ((Kn.numOf (s.data.toList.drop p)).2 + (Kn.numOf (s.data.toList.drop p)).1), by simp, by omega, by omega, ?_⟩
    simp only
    rw [hes, Lib.extract_data, h1, ← h3, show p + ((Kn.numOf (s.data.toList.drop p)).2 + (Kn.numOf (s.data.toList.drop p)).1) - p = (Kn.numOf (s.data.toList.drop p)).2 + (Kn.numOf (s.data.toList.drop p)).1 from by omega]
    rw [show (Kn.numOf (s.data.toList.drop p)).2 + (Kn.numOf (s.data.toList.drop p)).1 - (Kn.numOf (s.data.toList.drop p)).2 = (Kn.numOf (s.data.toList.drop p)).1 from by omega, List.take_add]
end Go.Proofs.Ytaacafdlklnegaa
