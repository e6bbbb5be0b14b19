/-
  Reading a beginning of what was written: plain laws of the Reader's functions.
-/
import Derived.Test.YtkoopagjjmdodaaOwn
namespace Go.Proofs.Ytkoopagjjmdodaa
open Go.RowKit
set_option linter.unusedVariables false

/-- Integers written one behind the other. -/
def encs (zs : List Int) : List UInt8 := zs.flatMap fun z => Kn.enc (Kn.zig z)
theorem encs_snoc (zs : List Int) (z : Int) : encs (zs ++ [z]) = encs zs ++ Kn.enc (Kn.zig z) := by simp [encs]
theorem encs_cons (z : Int) (zs : List Int) : encs (z :: zs) = Kn.enc (Kn.zig z) ++ encs zs := by simp [encs]
theorem encs_length (zs : List Int) (h : ∀ z ∈ zs, -9223372036854775808 ≤ z ∧ z < 9223372036854775808) : (encs zs).length ≤ 10 * zs.length := by
  induction zs with
  | nil => simp [encs]
  | cons z zs ih =>
    have h1 := ih (fun x hx => h x (by simp [hx]))
    have h2 := Kn.enc_len10 (Kn.zig_lt (h z (by simp)).1 (h z (by simp)).2)
    rw [encs_cons, List.length_append, List.length_cons]; omega
theorem encs_split (zs : List Int) (j : Nat) (h : j < zs.length) : encs (zs.drop j) = Kn.enc (Kn.zig zs[j]) ++ encs (zs.drop (j + 1)) := by
  rw [List.drop_eq_getElem_cons h, encs_cons]
theorem encs_take (zs : List Int) (j : Nat) (h : j < zs.length) : encs (zs.take (j + 1)) = encs (zs.take j) ++ Kn.enc (Kn.zig zs[j]) := by
  rw [List.take_succ_eq_append_getElem h, encs_snoc]
theorem encs_both (zs : List Int) (j : Nat) : encs (zs.take j) ++ encs (zs.drop j) = encs zs := by
  unfold encs; rw [← List.flatMap_append, List.take_append_drop]

theorem take_enc {n m : Nat} {r : List UInt8} (h : m < (Kn.enc n).length) : (Kn.enc n ++ r).take m = (Kn.enc n).take m := by
  rw [List.take_append, show m - (Kn.enc n).length = 0 from by omega]; simp
theorem take_enc' {n m : Nat} {r : List UInt8} (h : (Kn.enc n).length ≤ m) : (Kn.enc n ++ r).take m = Kn.enc n ++ r.take (m - (Kn.enc n).length) := by
  rw [List.take_append, List.take_of_length_le h]

theorem rU_short (s : ByteArray) (p n m : Nat) (r : List UInt8) (hp : p ≤ s.size) (h : s.data.toList.drop p = (Kn.enc n ++ r).take m) (hm : m < (Kn.enc n).length) : rU s p 0 = (0, (p : Int), 3) := by
  have h1 := restOf_at s p hp
  rw [rU, if_pos rfl, h1, h, take_enc hm, Kn.numOf_short n m hm, if_pos rfl]
theorem rS_short (s t : ByteArray) (p m : Nat) (hp : p ≤ s.size) (hn : t.size < 18446744073709551616) (h : s.data.toList.drop p = (Kn.enc t.size ++ t.data.toList).take m) (hm : m < (Kn.enc t.size).length + t.size) :
    rS s p 0 = (ByteArray.empty, (p : Int), 3) := by
  have h1 := restOf_at s p hp
  have hl : (restOf s p).size = m := by
    have : (restOf s p).data.toList.length = (restOf s p).size := by simp
    have ht : t.data.toList.length = t.size := by simp
    rw [← this, h1, h, List.length_take, List.length_append, ht]; omega
  by_cases hlt : m < (Kn.enc t.size).length
  · rw [rS, if_pos rfl, h1, h, take_enc hlt, Kn.numOf_short _ m hlt, if_pos (.inl rfl)]
  · rw [rS, if_pos rfl, h1, h, take_enc' (by omega), Kn.numOf_enc hn, if_pos (.inr (by rw [hl]; exact hm))]
theorem rU_err (s : ByteArray) (p e : Int) (he : e ≠ 0) : rU s p e = (0, p, e) := by rw [rU, if_neg he]
theorem rS_err (s : ByteArray) (p e : Int) (he : e ≠ 0) : rS s p e = (ByteArray.empty, p, e) := by rw [rS, if_neg he]

/-- A Reader of our own over a beginning (q bytes) of all, behind j integers; it may have failed. -/
def OwnCut (w0 w : World) (b : Nat) (s : ByteArray) (zs : List Int) (q j : Nat) : Prop :=
  ∃ p e : Int, OwnR w0 w b s p e ∧ (e = 3 ∨ (e = 0 ∧ p = ((encs (zs.take j)).length : Nat) ∧ (encs (zs.take j)).length ≤ q))
theorem OwnCut.int {w0 w : World} {b : Nat} {s t : ByteArray} {zs : List Int} {q j : Nat} (h : OwnCut w0 w b s zs q j) (hj : j < zs.length) (hz : ∀ z ∈ zs, -9223372036854775808 ≤ z ∧ z < 9223372036854775808)
    (hs : s.data.toList = (encs zs ++ (Kn.enc t.size ++ t.data.toList)).take q) (hq : q < (encs zs ++ (Kn.enc t.size ++ t.data.toList)).length) (hsz : s.size ≤ 140737488355328) :
    Calls Try.prog 43 #[.pointer (some ⟨b, 0, none⟩)] w fun e w' => (∃ n : Int, e = .returned (.int .i64 n)) ∧ OwnCut w0 w' b s zs q (j + 1) := by
  obtain ⟨p, e, hR, hst⟩ := h
  refine (rInt_any w b s p e hR.rd hsz).mono fun e' w' ⟨he, h4, h5⟩ => ⟨⟨_, he⟩, ?_⟩
  have hR' := hR.step h4 h5
  have hsl : s.size = q := by
    have : s.data.toList.length = s.size := by simp
    rw [← this, hs, List.length_take]; omega
  rcases hst with rfl | ⟨rfl, rfl, hle⟩
  · rw [rU_err _ _ _ (by decide)] at hR'
    exact ⟨p, 3, hR', .inl rfl⟩
  · have hd : s.data.toList.drop (encs (zs.take j)).length = (Kn.enc (Kn.zig zs[j]) ++ (encs (zs.drop (j + 1)) ++ (Kn.enc t.size ++ t.data.toList))).take (q - (encs (zs.take j)).length) := by
      rw [hs, List.drop_take, ← encs_both zs j, List.append_assoc, List.drop_left, encs_split zs j hj, List.append_assoc]
    have hzj := hz zs[j] (List.getElem_mem _)
    by_cases hm : q - (encs (zs.take j)).length < (Kn.enc (Kn.zig zs[j])).length
    · rw [rU_short s _ _ _ _ (by omega) hd hm] at hR'
      exact ⟨_, 3, hR', .inl rfl⟩
    · rw [take_enc' (by omega)] at hd
      rw [rU_enc s _ _ _ (by omega) (Kn.zig_lt hzj.1 hzj.2) hd] at hR'
      refine ⟨_, 0, hR', .inr ⟨rfl, ?_, ?_⟩⟩
      · rw [encs_take zs j hj, List.length_append]
      · rw [encs_take zs j hj, List.length_append]; omega
theorem OwnCut.string {w0 w : World} {b : Nat} {s t : ByteArray} {zs : List Int} {q : Nat} (h : OwnCut w0 w b s zs q zs.length)
    (hs : s.data.toList = (encs zs ++ (Kn.enc t.size ++ t.data.toList)).take q) (hq : q < (encs zs ++ (Kn.enc t.size ++ t.data.toList)).length) (ht : t.size < 18446744073709551616) (hsz : s.size ≤ 140737488355328) :
    Calls Try.prog 44 #[.pointer (some ⟨b, 0, none⟩)] w fun e w' => (∃ u : ByteArray, e = .returned (.string u)) ∧ ∃ p, OwnR w0 w' b s p 3 := by
  obtain ⟨p, e, hR, hst⟩ := h
  refine (rString_any w b s p e hR.rd hsz).mono fun e' w' ⟨he, h4, h5⟩ => ⟨⟨_, he⟩, ?_⟩
  have hR' := hR.step h4 h5
  have hsl : s.size = q := by
    have : s.data.toList.length = s.size := by simp
    rw [← this, hs, List.length_take]; omega
  have htl : t.data.toList.length = t.size := by simp
  rcases hst with rfl | ⟨rfl, rfl, hle⟩
  · rw [rS_err _ _ _ (by decide)] at hR'
    exact ⟨p, hR'⟩
  · rw [List.take_length] at hR' hle
    have hd : s.data.toList.drop (encs zs).length = (Kn.enc t.size ++ t.data.toList).take (q - (encs zs).length) := by
      rw [hs, List.drop_take, List.drop_left]
    rw [rS_short s t _ _ (by omega) ht hd (by simp at hq; omega)] at hR'
    exact ⟨_, hR'⟩
theorem OwnR.done3 {w0 w : World} {b : Nat} {s : ByteArray} {p : Int} (h : OwnR w0 w b s p 3) (hs : s.size ≤ 140737488355328) :
    Calls Try.prog 45 #[.pointer (some ⟨b, 0, none⟩)] w fun e w' => e = .returned (.int .i64 3) ∧ Chg (fun _ => False) w w' :=
  (rDone_any w b s p 3 h.rd hs).mono fun e w' ⟨he, h5⟩ => ⟨by rw [he]; rfl, h5⟩
theorem OwnRest.done3 {w0 w : World} {b : Nat} {s : ByteArray} {c : UInt8} {r : List UInt8} (h : OwnRest w0 w b s (c :: r)) (hs : s.size ≤ 140737488355328) :
    Calls Try.prog 45 #[.pointer (some ⟨b, 0, none⟩)] w fun e w' => e = .returned (.int .i64 3) ∧ Chg (fun _ => False) w w' := by
  obtain ⟨p, h1, h2, h3⟩ := h
  refine (rDone_any w b s p 0 h1.rd hs).mono fun e w' ⟨he, h5⟩ => ?_
  have hl : s.data.toList.length = s.size := by simp
  have h4 := congrArg List.length h3
  rw [List.length_drop, List.length_cons] at h4
  rw [if_neg (by simp), if_pos (by simp; omega)] at he
  exact ⟨he, h5⟩
end Go.Proofs.Ytkoopagjjmdodaa
