/-
  Hand of layer 54, in all cases; the cells of messages that are cut.
-/
import Derived.Test.YtkoopagjjmdodaaPlb
import Derived.Test.YtkoopagjjmdodaaCopy
namespace Go.Proofs.Ytkoopagjjmdodaa
open Go.RowKit
set_option linter.unusedVariables false
set_option linter.unusedSimpArgs false

theorem hand_any (w : World) (b o : Nat) (h : Host) (F : List Nat) (page letter : ByteArray) (dst : Int) (H : Here hostR w b o h F) (hls : letter.size ≤ 16777216) (hk : ∀ s ∈ h.seats, Mid s.epoch) (hlo : Few (h.out.length + 20000)) :
    Calls Try.prog 12 #[.pointer (some ⟨b, o, none⟩), .string page, .string letter, .int .i64 dst] w fun e' w' => e' = .returned (.int .i64 (handM h page letter dst).1) ∧ HostPost w b o (handM h page letter dst).2 F w' := by
  have hno : ∀ e, handM h page letter dst = (e, h) → e ≠ 0 → Calls Try.prog 12 #[.pointer (some ⟨b, o, none⟩), .string page, .string letter, .int .i64 dst] w fun e' w' => e' = .returned (.int .i64 (handM h page letter dst).1) ∧ HostPost w b o (handM h page letter dst).2 F w' := fun e hM he => by
    rw [hM]
    exact (hand_no w b o h F page letter dst e hM he H (by omega)).mono fun _ _ x => ⟨x.1, hostStill H x.2⟩
  cases hf : findS page h.seats 0 with
  | none => exact hno 6 (by unfold handM; rw [hf]) (by decide)
  | some i =>
    have hi : i < h.seats.length := by have := findS_lt page h.seats 0 i hf; omega
    have hg : h.seats.getD i (newSeat page) = h.seats[i] := by simp [List.getD_eq_getElem?_getD, hi]
    have hM : handM h page letter dst = if h.seats[i].state ≠ 1 then (7, h) else if dst < 0 ∨ dst = h.id then (1, h) else if 16777216 < letter.size then (5, h) else
        (0, { h with seats := h.seats.set i { h.seats[i] with state := 2, peer := dst, letter := letter, epoch := h.seats[i].epoch + 1 }, out := h.out ++ (offerMsg h.id { h.seats[i] with state := 2, peer := dst, letter := letter, epoch := h.seats[i].epoch + 1 } (partsL letter).length :: partMsgs h.id { h.seats[i] with state := 2, peer := dst, letter := letter, epoch := h.seats[i].epoch + 1 } (partsL letter).length (partsL letter) 0) }) := by
      unfold handM
      rw [hf]
      simp only
      rw [hg]
    by_cases h1 : h.seats[i].state ≠ 1
    · exact hno 7 (by rw [hM, if_pos h1]) (by decide)
    · by_cases h2 : dst < 0 ∨ dst = h.id
      · exact hno 1 (by rw [hM, if_neg h1, if_pos h2]) (by decide)
      · rw [hM, if_neg h1, if_neg h2, if_neg (by omega)]
        exact hand_ok w b o h F page letter dst i hi hf (Classical.byContradiction h1) (fun x => h2 (.inl x)) (fun x => h2 (.inr x)) (by omega) (hk _ (List.getElem_mem hi)) H hlo
theorem cells_take (l : List Msg) (k : Nat) (hk : k ≤ l.length) : (l.flatMap Msg.cells).take (k * 8) = (l.take k).flatMap Msg.cells := by
  induction l generalizing k with
  | nil => have : k = 0 := by simpa using hk
           subst this; rfl
  | cons m l ih =>
    cases k with
    | zero => simp
    | succ k =>
      rw [List.take_succ_cons, List.flatMap_cons, List.flatMap_cons, ← ih k (by simpa using hk), Nat.succ_mul, show k * 8 + 8 = m.cells.length + k * 8 by rw [Msg.len]; omega, List.take_length_add_append]
theorem cells_skip (l : List Msg) (k : Nat) (hk : k ≤ l.length) : (l.flatMap Msg.cells).drop (k * 8) = (l.drop k).flatMap Msg.cells := by
  induction l generalizing k with
  | nil => have : k = 0 := by simpa using hk
           subst this; rfl
  | cons m l ih =>
    cases k with
    | zero => simp
    | succ k =>
      rw [List.drop_succ_cons, List.flatMap_cons, ← ih k (by simpa using hk), Nat.succ_mul, show k * 8 + 8 = m.cells.length + k * 8 by rw [Msg.len]; omega, List.drop_length_add_append]
end Go.Proofs.Ytkoopagjjmdodaa
