/-
  The methods of a Reader: the number at the head of a string, what is read, and what is left alone.
-/
import Derived.Test.YtaacafdlklnegaaRep
import Derived.Test.YtaacafdlklnegaaPure
namespace Go.Proofs.Ytaacafdlklnegaa
set_option linter.unusedVariables false
open Go.RowKit

open Kn (numOf)

theorem and127 : ∀ x : Fin 256, x.val &&& 127 = x.val % 128 := by decide +kernel
theorem digit_or (acc k c : Nat) (hk : k < 10) (hc : c < 256) (hacc : acc < 2 ^ (7 * k)) (h9 : k = 9 → c ≤ 1) :
    bits BinOp.or IntKind.u64 (acc : Int) (IntKind.u64.wrap (IntKind.u64.wrap (bits BinOp.and IntKind.u8 (c : Int) 127) * 2 ^ (7 * k))) = ((acc + c % 128 * 2 ^ (7 * k) : Nat) : Int) := by
  have h1 : bits BinOp.and IntKind.u8 (c : Int) 127 = ((c % 128 : Nat) : Int) := by
    have := u8_and_nat c 127 hc (by omega)
    rw [nat_mask7] at this
    exact this
  have hsmall : c % 128 * 2 ^ (7 * k) + 2 ^ (7 * k) ≤ 18446744073709551616 := by
    by_cases h : k = 9
    · subst h
      have := h9 rfl
      have : c % 128 ≤ 1 := by omega
      have : c % 128 * 2 ^ (7 * 9) ≤ 1 * 2 ^ (7 * 9) := Nat.mul_le_mul_right _ this
      exact Nat.le_trans (Nat.add_le_add_right this _) (by decide)
    · have h2 : 2 ^ (7 * k) ≤ 2 ^ 56 := Nat.pow_le_pow_right (by omega) (by omega)
      have h3 : c % 128 * 2 ^ (7 * k) ≤ 127 * 2 ^ (7 * k) := Nat.mul_le_mul_right _ (by omega)
      have h5 : c % 128 * 2 ^ (7 * k) + 2 ^ (7 * k) ≤ 128 * 2 ^ (7 * k) := by omega
      exact Nat.le_trans h5 (Nat.le_trans (Nat.mul_le_mul_left 128 h2) (by decide))
  have h4 : ((c % 128 : Nat) : Int) * 2 ^ (7 * k) = ((c % 128 * 2 ^ (7 * k) : Nat) : Int) := by push_cast; rfl
  rw [h1, IntWalk.u64_in ((c % 128 : Nat) : Int) (by omega), h4, IntWalk.u64_in ((c % 128 * 2 ^ (7 * k) : Nat) : Int) (by omega), u64_or_nat _ _ (by omega) (by omega)]
  congr 1
  have := Nat.shiftLeft_add_eq_or_of_lt hacc (c % 128)
  rw [Nat.shiftLeft_eq] at this
  rw [Nat.or_comm, ← this, Nat.add_comm]
theorem digit_lt (acc k c : Nat) (hacc : acc < 2 ^ (7 * k)) : acc + c % 128 * 2 ^ (7 * k) < 2 ^ (7 * (k + 1)) := by
  rw [Nat.mul_succ, Nat.pow_add]
  have h3 : c % 128 * 2 ^ (7 * k) ≤ 127 * 2 ^ (7 * k) := Nat.mul_le_mul_right _ (by omega)
  omega
theorem drop_cons (s : ByteArray) (k : Nat) (h : k < s.size) : s.data.toList.drop k = s[k] :: s.data.toList.drop (k + 1) := by
  rw [List.drop_eq_getElem_cons (by simpa using h)]; rfl
theorem ret_two {p : Nat × Nat} {n : Int} {k : Int} (h1 : (p.1 : Int) = n) (h2 : (p.2 : Int) = k) : Ending.returned (.tuple #[.int .u64 n, .int .i64 k]) = .returned (.tuple #[.int .u64 p.1, .int .i64 p.2]) := by rw [h1, h2]

set_option maxHeartbeats 800000 in
set_option maxRecDepth 100000 in
theorem number_any (s : ByteArray) (w : World) (hs : s.size ≤ maxLen) :
    Calls Try.prog 59 #[.string s] w fun e w' => e = .returned (.tuple #[.int .u64 (numOf s.data.toList).1, .int .i64 (numOf s.data.toList).2]) ∧ w = w' := by
  unfold maxLen at hs
  go_enter Try.func59, Try.ntmps59
  go_wp2
  go_loop [4, 5, 6] (fun c i _ => ∃ (k acc : Nat), k ≤ s.size ∧ k ≤ 10 ∧ i = .int .i64 k ∧ c = .int .u64 acc ∧ acc < 2 ^ (7 * k) ∧ Hid (Kn.num s.data.toList = Kn.numAt (s.data.toList.drop k) k acc)) (fun _ i _ => s.size - (intOf i).toNat)
  case atStart => exact ⟨0, 0, Nat.zero_le _, Nat.zero_le _, rfl, rfl, by decide, rfl⟩
  case round =>
    obtain ⟨k, acc, hk, hk10, rfl, rfl, hacc, HN⟩ := hrel
    by_cases hlt : k < s.size
    · have hb := s[k].toNat_lt
      by_cases h10 : k < 10
      · have HU := HN.out
        rw [drop_cons s k hlt, Kn.numAt, if_neg (by omega)] at HU
        have HV := Lib.hid HU
        clear HU HN
        by_cases h9 : k < 9
        · by_cases hc : s[k].toNat < 128
          · by_cases hc0 : s[k].toNat ≤ 0 ∧ 0 < k
            · go_wp2
              all_goals first | omega | skip
              all_goals (
                go_ret2
                have hu := HV.out
                rw [if_neg (by omega), if_pos hc, if_pos (by omega)] at hu
                refine ⟨ret_two ?_ ?_, rfl⟩ <;> simp [Kn.numOf, hu])
            · have hd := digit_or acc k _ h10 hb hacc (by omega)
              have hu : numOf s.data.toList = (acc + s[k].toNat % 128 * 2 ^ (7 * k), k + 1) := by
                have hu := HV.out
                rw [if_neg (by omega), if_pos hc, if_neg (by omega)] at hu
                rw [Kn.numOf, hu]; rfl
              have HD := Lib.hid hd
              have HX := Lib.hid hu
              clear hd hu HV
              go_wp2
              all_goals first | omega | skip
              all_goals (
                go_ret2
                refine ⟨ret_two ?_ ?_, rfl⟩
                · rw [HX.out]
                  first | exact HD.out.symm | (have h0 : s[k].toNat = 0 := by omega
                                               have hd := HD.out
                                               rw [h0] at hd ⊢
                                               exact hd.symm)
                · rw [HX.out]; rfl)
          · have hd := digit_or acc k _ h10 hb hacc (by omega)
            have hu : Kn.num s.data.toList = Kn.numAt (s.data.toList.drop (k + 1)) (k + 1) (acc + s[k].toNat % 128 * 2 ^ (7 * k)) := by
              have hu := HV.out
              rw [if_neg (by omega), if_neg hc] at hu
              exact hu
            have HD := Lib.hid hd
            have HX := Lib.hid hu
            clear hd hu HV
            go_wp2
            all_goals first | omega | skip
            go_round
            case rel => exact ⟨k + 1, _, by omega, by omega, by go_num, by rw [HD.out], digit_lt acc k _ hacc, HX⟩
            case measure => simp [intOf]; omega
        · obtain rfl : k = 9 := by omega
          by_cases hc1 : 1 < s[9].toNat
          · go_wp2
            all_goals first | omega | skip
            all_goals (
              go_ret2
              have hu := HV.out
              rw [if_pos ⟨trivial, hc1⟩] at hu
              refine ⟨ret_two ?_ ?_, rfl⟩ <;> simp [Kn.numOf, hu])
          · by_cases hc0 : s[9].toNat ≤ 0
            · go_wp2
              all_goals first | omega | skip
              all_goals (
                go_ret2
                have hu := HV.out
                rw [if_neg (by omega), if_pos (by omega), if_pos (by omega)] at hu
                refine ⟨ret_two ?_ ?_, rfl⟩ <;> simp [Kn.numOf, hu])
            · have hd := digit_or acc 9 _ h10 hb hacc (by omega)
              have hu : numOf s.data.toList = (acc + s[9].toNat % 128 * 2 ^ (7 * 9), 9 + 1) := by
                have hu := HV.out
                rw [if_neg (by omega), if_pos (by omega), if_neg (by omega)] at hu
                rw [Kn.numOf, hu]; rfl
              have HD := Lib.hid hd
              have HX := Lib.hid hu
              clear hd hu HV
              go_wp2
              all_goals first | omega | skip
              all_goals (
                go_ret2
                refine ⟨ret_two ?_ ?_, rfl⟩
                · rw [HX.out]; exact HD.out.symm
                · rw [HX.out]; rfl)
      · have hu : numOf s.data.toList = (0, 0) := by
          rw [Kn.numOf, HN.out]
          rw [drop_cons s k hlt, Kn.numAt, if_pos (by omega)]; rfl
        have HX := Lib.hid hu
        clear hu
        obtain rfl : k = 10 := by omega
        go_wp2
        all_goals first | omega | skip
        go_ret2
        refine ⟨ret_two ?_ ?_, rfl⟩ <;> (rw [HX.out]; rfl)
    · have hu : numOf s.data.toList = (0, 0) := by
        rw [Kn.numOf, HN.out, List.drop_of_length_le (by simp; omega), Kn.numAt]; rfl
      have HX := Lib.hid hu
      clear hu
      go_wp2
      all_goals first | omega | skip
      all_goals (
        go_ret2
        refine ⟨ret_two ?_ ?_, rfl⟩ <;> (rw [HX.out]; rfl))

/-- What has not been read. -/
def restOf (s : ByteArray) (at_ : Int) : ByteArray := if at_ < 0 ∨ (s.size : Int) < at_ then ByteArray.empty else s.extract at_.toNat s.size

set_option maxHeartbeats 400000 in
set_option maxRecDepth 100000 in
theorem rest_any {T : Nat} (w : World) (b : Nat) (s : ByteArray) (at_ err : Int) (hr : RdAt w b T s at_ err) (_hs : s.size ≤ maxLen) :
    Calls Try.prog 60 #[.pointer (some ⟨b, 0, none⟩)] w fun e w' => e = .returned (.string (restOf s at_)) ∧ Chg (fun _ => False) w w' := by
  have hc0 := cell_of_block (i := 0) hr rfl
  have hc1 := cell_of_block (i := 1) hr rfl
  have hz0 := frozen_of_block (i := 0) hr
  have hz1 := frozen_of_block (i := 1) hr
  go_enter Try.func60, Try.ntmps60
  by_cases h0 : at_ < 0
  · have hx : restOf s at_ = ByteArray.empty := by rw [restOf, if_pos (.inl h0)]
    have HX := Lib.hid hx
    clear hx
    go_wp2
    go_quiet (fail)
    go_wp2
    go_ret
    exact ⟨by rw [HX.out]; rfl, (Chg.refl _ w).drewNR _⟩
  · by_cases h1 : (s.size : Int) < at_
    · have hx : restOf s at_ = ByteArray.empty := by rw [restOf, if_pos (.inr h1)]
      have HX := Lib.hid hx
      clear hx
      go_wp2
      go_quiet (fail)
      go_wp2
      go_ret
      exact ⟨by rw [HX.out]; rfl, (Chg.refl _ w).drewNR _⟩
    · have hx : restOf s at_ = s.extract at_.toNat s.size := by rw [restOf, if_neg (by omega)]
      have HX := Lib.hid hx
      clear hx
      obtain ⟨k, rfl⟩ := Int.eq_ofNat_of_zero_le (show 0 ≤ at_ by omega)
      go_wp2
      go_quiet (fail)
      go_wp2
      go_quiet (fail)
      go_wp2
      go_ret
      exact ⟨by rw [HX.out]; rfl, ((Chg.refl _ w).drewNR _).drewNR _⟩

set_option maxHeartbeats 400000 in
set_option maxRecDepth 100000 in
theorem fail_any {T : Nat} (w : World) (b : Nat) (s : ByteArray) (at_ err e' : Int) (hr : RdAt w b T s at_ err) :
    Calls Try.prog 61 #[.pointer (some ⟨b, 0, none⟩), .int .i64 e'] w fun e w' => e = .returned (.tuple #[]) ∧ RdAt w' b T s at_ e' ∧ Chg (· = b) w w' := by
  have hc0 := cell_of_block (i := 2) hr rfl
  have hz0 := frozen_of_block (i := 2) hr
  go_enter Try.func61, Try.ntmps61
  go_wp2
  go_end0
  refine ⟨rfl, ?_, Chg.setCell w ⟨b, 2, none⟩ _⟩
  have := setCell_block (i := 2) (.int .i64 e') hr
  exact this

theorem restOf_size (s : ByteArray) (at_ : Int) : (restOf s at_).size ≤ s.size := by
  unfold restOf
  split
  · simp
  · simp [ByteArray.size_extract]
theorem restOf_pos (s : ByteArray) (at_ : Int) (h : 0 < (restOf s at_).size) : 0 ≤ at_ ∧ at_ + (restOf s at_).size = s.size := by
  unfold restOf at h ⊢
  split at h
  · simp at h
  · rename_i hn
    rw [if_neg hn]
    simp [ByteArray.size_extract] at h ⊢
    omega
theorem numOf_rest (s : ByteArray) (at_ : Int) (h : 0 < (numOf (restOf s at_).data.toList).2) : 0 ≤ at_ ∧ at_ + (numOf (restOf s at_).data.toList).2 ≤ s.size := by
  have h1 := (Kn.numOf_bounds (restOf s at_).data.toList).1
  have h2 : (restOf s at_).data.toList.length = (restOf s at_).size := by simp
  have := restOf_pos s at_ (by omega)
  omega

/-- What Uint returns, and the Reader's new offset and error. -/
def rU (s : ByteArray) (at_ err : Int) : Nat × Int × Int :=
  if err = 0 then
    (if (numOf (restOf s at_).data.toList).2 = 0 then (0, at_, 3) else ((numOf (restOf s at_).data.toList).1, at_ + (numOf (restOf s at_).data.toList).2, 0))
  else (0, at_, err)

theorem RdAt.set1 {w : World} {b T : Nat} {s : ByteArray} {at_ err : Int} (h : RdAt w b T s at_ err) (n : Int) : RdAt (w.setCell ⟨b, 1, none⟩ (.int .i64 n)) b T s n err := by
  have := setCell_block (i := 1) (.int .i64 n) h
  exact this
theorem RdAt.keep {S : Nat → Prop} {w w' : World} {b T : Nat} {s : ByteArray} {at_ err : Int} (h : RdAt w b T s at_ err) (hc : Chg S w w') (hn : ¬ S b) : RdAt w' b T s at_ err := Chg.keep hc h hn

set_option maxHeartbeats 400000 in
set_option maxRecDepth 100000 in
theorem rUint_any {T : Nat} (w : World) (b : Nat) (s : ByteArray) (at_ err : Int) (hr : RdAt w b T s at_ err) (hs : s.size ≤ 140737488355328) :
    Calls Try.prog 62 #[.pointer (some ⟨b, 0, none⟩)] w fun e w' => e = .returned (.int .u64 (rU s at_ err).1) ∧ RdAt w' b T s (rU s at_ err).2.1 (rU s at_ err).2.2 ∧ Chg (· = b) w w' := by
  have hc2 := cell_of_block (i := 2) hr rfl
  by_cases he : err = 0
  · subst he
    have hsz := restOf_size s at_
    have hnum := fun W => number_any (restOf s at_) W (by unfold maxLen; omega)
    have hnr := numOf_rest s at_
    have hU : rU s at_ 0 = (if (numOf (restOf s at_).data.toList).2 = 0 then (0, at_, 3) else ((numOf (restOf s at_).data.toList).1, at_ + (numOf (restOf s at_).data.toList).2, 0)) := by rw [rU, if_pos rfl]
    have hbd := Kn.numOf_bounds (restOf s at_).data.toList
    obtain ⟨n, hn⟩ : ∃ n, (numOf (restOf s at_).data.toList).1 = n := ⟨_, rfl⟩
    obtain ⟨k, hk⟩ : ∃ k, (numOf (restOf s at_).data.toList).2 = k := ⟨_, rfl⟩
    rw [hn, hk] at hU hbd
    rw [hk] at hnr
    simp only [hn, hk] at hnum
    have HU := Lib.hid hU
    have HM := Lib.hid hnum
    clear hn hk hU hnum
    go_enter Try.func62, Try.ntmps62
    go_wp2_with fail
    refine (rest_any w b s at_ 0 hr (by unfold maxLen; omega)).mono ?_
    rintro e w1 ⟨rfl, hch1⟩
    have hr1 := hr.keep hch1 (fun x => x)
    go_wp2_with fail
    refine (HM.out w1).mono ?_
    rintro e w2 ⟨rfl, rfl⟩
    have hc1 := cell_of_block (i := 1) hr1 rfl
    have hz1 := frozen_of_block (i := 1) hr1
    by_cases hk0 : k ≤ 0
    · obtain rfl : k = 0 := by omega
      go_wp2_with fail
      refine (fail_any w1 b s at_ 0 3 hr1).mono ?_
      rintro e w3 ⟨rfl, hr3, hch3⟩
      go_wp2
      go_ret
      rw [HU.out]
      exact ⟨rfl, hr3, (hch1.mono (fun _ _ x => x.elim)).trans' hch3⟩
    · have hb := hnr (by omega)
      go_wp2
      all_goals first | omega | skip
      go_ret
      rw [HU.out, if_neg (by omega)]
      exact ⟨rfl, hr1.set1 _, (hch1.mono (fun _ _ x => x.elim)).setCellR _ _ (fun _ => rfl)⟩
  · have hU : rU s at_ err = (0, at_, err) := by rw [rU, if_neg he]
    have HU := Lib.hid hU
    clear hU
    go_enter Try.func62, Try.ntmps62
    go_wp2
    go_ret
    rw [HU.out]
    exact ⟨rfl, hr, Chg.refl _ _⟩
end Go.Proofs.Ytaacafdlklnegaa
