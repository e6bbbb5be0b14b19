/-
  The methods of a Reader, continued: Int, Bool, String, Count, Done.
-/
import Derived.Test.YtaacafdlklnegaaRead
import Derived.Lib.Zigzag
namespace Go.Proofs.Ytaacafdlklnegaa
set_option linter.unusedVariables false
open Go.RowKit
open Kn (numOf)

theorem rU_lt (s : ByteArray) (at_ err : Int) : (rU s at_ err).1 < 18446744073709551616 := by
  have := Kn.numOf_bounds (restOf s at_).data.toList
  unfold rU
  split
  · split
    · simp
    · exact this.2.2
  · simp

theorem unzig_xor (n : Nat) (h : n < 18446744073709551616) (x y : Int) (hx : x = (n / 2 : Nat)) (hy : y = -((n % 2 : Nat) : Int)) : bits BinOp.xor IntKind.i64 x y = Kn.unzig n := by
  subst hx hy
  unfold Kn.unzig
  split
  · rename_i h0
    rw [h0]
    show IntKind.i64.wrap ((BitVec.ofInt 64 ((n / 2 : Nat) : Int) ^^^ BitVec.ofInt 64 (-((0 : Nat) : Int))).toNat : Int) = _
    have h2 : BitVec.ofInt 64 (-((0 : Nat) : Int)) = 0 := by decide
    have h3 : (BitVec.ofInt 64 ((n / 2 : Nat) : Int)).toNat = n / 2 := by
      rw [BitVec.ofInt_natCast, BitVec.toNat_ofNat]; exact Nat.mod_eq_of_lt (by omega)
    rw [h2]
    simp only [BitVec.ofNat_eq_ofNat, BitVec.xor_zero]
    rw [h3, IntKind.wrap_i64]
    omega
  · rename_i h0
    rw [show n % 2 = 1 from by omega]
    have := Lib.i64_not (n / 2) (by omega)
    rw [← this]
    show IntKind.i64.wrap ((BitVec.ofInt 64 ((n / 2 : Nat) : Int) ^^^ BitVec.ofInt 64 (-((1 : Nat) : Int))).toNat : Int) = IntKind.i64.wrap ((BitVec.ofInt 64 (-1) ^^^ BitVec.ofInt 64 ((n / 2 : Nat) : Int)).toNat : Int)
    rw [BitVec.xor_comm]; rfl

set_option maxHeartbeats 400000 in
set_option maxRecDepth 100000 in
theorem rInt_any {T : Nat} (w : World) (b : Nat) (s : ByteArray) (at_ err : Int) (hr : RdAt w b T s at_ err) (hs : s.size ≤ 140737488355328) :
    Calls Try.prog 52 #[.pointer (some ⟨b, 0, none⟩)] w fun e w' => e = .returned (.int .i64 (Kn.unzig (rU s at_ err).1)) ∧ RdAt w' b T s (rU s at_ err).2.1 (rU s at_ err).2.2 ∧ Chg (· = b) w w' := by
  have hlt := rU_lt s at_ err
  have hu := rUint_any w b s at_ err hr hs
  generalize rU s at_ err = p at *
  obtain ⟨n, a1, e1⟩ := p
  simp only at hlt hu ⊢
  go_enter Try.func52, Try.ntmps52
  go_wp2_with fail
  refine hu.mono ?_
  rintro e w1 ⟨rfl, hr1, hch1⟩
  go_wp2
  go_ret
  refine ⟨ret_int ?_, hr1, hch1⟩
  have h1 := Lib.u64_and1 (n : Int) (by omega) (by omega)
  refine unzig_xor n hlt _ _ (by omega) ?_
  rw [h1]
  unfold wrap64
  omega

theorem ret_bool {a b : Bool} (h : a = b) : Ending.returned (.bool a) = .returned (.bool b) := by rw [h]
theorem int_beq1 (c : Nat) : ((c : Int) == 1) = (c == 1) := by
  rw [Bool.eq_iff_iff]; simp; omega
/-- What Bool returns, and the Reader's new offset and error. -/
def rB (s : ByteArray) (at_ err : Int) : Bool × Int × Int :=
  if err = 0 then
    (match (restOf s at_).data.toList with
     | [] => (false, at_, 3)
     | c :: _ => if 1 < c.toNat then (false, at_, 3) else (c.toNat == 1, at_ + 1, 0))
  else (false, at_, err)

set_option maxHeartbeats 400000 in
set_option maxRecDepth 100000 in
theorem rBool_any {T : Nat} (w : World) (b : Nat) (s : ByteArray) (at_ err : Int) (hr : RdAt w b T s at_ err) (hs : s.size ≤ 140737488355328) :
    Calls Try.prog 63 #[.pointer (some ⟨b, 0, none⟩)] w fun e w' => e = .returned (.bool (rB s at_ err).1) ∧ RdAt w' b T s (rB s at_ err).2.1 (rB s at_ err).2.2 ∧ Chg (· = b) w w' := by
  have hc2 := cell_of_block (i := 2) hr rfl
  by_cases he : err = 0
  · subst he
    have hsz := restOf_size s at_
    have hpos := restOf_pos s at_
    have hU : rB s at_ 0 = (match (restOf s at_).data.toList with
     | [] => (false, at_, 3)
     | c :: _ => if 1 < c.toNat then (false, at_, 3) else (c.toNat == 1, at_ + 1, 0)) := by rw [rB, if_pos rfl]
    go_enter Try.func63, Try.ntmps63
    go_wp2_with fail
    refine (rest_any w b s at_ 0 hr (by unfold maxLen; omega)).mono ?_
    rintro e w1 ⟨rfl, hch1⟩
    have hr1 := hr.keep hch1 (fun x => x)
    have hc1 := cell_of_block (i := 1) hr1 rfl
    have hz1 := frozen_of_block (i := 1) hr1
    generalize restOf s at_ = t at *
    have HU := Lib.hid hU
    clear hU
    by_cases h0 : t.size ≤ 0
    · have ht : t = ByteArray.empty := by
        have : t.data.size = 0 := by simpa using h0
        cases t; simp_all [ByteArray.empty, ByteArray.emptyWithCapacity]
      subst ht
      go_wp2_with fail
      all_goals first | omega | skip
      refine (fail_any w1 b s at_ 0 3 hr1).mono ?_
      rintro e w3 ⟨rfl, hr3, hch3⟩
      go_wp2
      go_ret
      rw [HU.out]
      exact ⟨rfl, hr3, (hch1.mono (fun _ _ x => x.elim)).trans' hch3⟩
    · have hb := hpos (by omega)
      have hl : t.data.toList = t[0] :: t.data.toList.drop 1 := by
        have := drop_cons t 0 (by omega)
        simpa using this
      have hne : t.toList.isEmpty = false := by rw [ByteArray.toList_eq, hl]; rfl
      have hV := HU.out
      rw [hl] at hV
      simp only at hV
      have HV := Lib.hid hV
      clear hV HU hl hpos
      by_cases hc : 1 < t[0].toNat
      · go_wp2_with fail
        refine (fail_any w1 b s at_ 0 3 hr1).mono ?_
        rintro e w3 ⟨rfl, hr3, hch3⟩
        go_wp2
        go_ret
        rw [HV.out, if_pos hc]
        exact ⟨rfl, hr3, (hch1.mono (fun _ _ x => x.elim)).trans' hch3⟩
      · go_wp2
        go_ret
        rw [HV.out, if_neg hc]
        refine ⟨?_, hr1.set1 _, (hch1.mono (fun _ _ x => x.elim)).setCellR _ _ (fun _ => rfl)⟩
        exact ret_bool (int_beq1 _)
  · have hU : rB s at_ err = (false, at_, err) := by rw [rB, if_neg he]
    have HU := Lib.hid hU
    clear hU
    go_enter Try.func63, Try.ntmps63
    go_wp2
    go_ret
    rw [HU.out]
    exact ⟨rfl, hr, Chg.refl _ _⟩

/-- What String returns, and the Reader's new offset and error. -/
def rS (s : ByteArray) (at_ err : Int) : ByteArray × Int × Int :=
  if err = 0 then
    (if (numOf (restOf s at_).data.toList).2 = 0 ∨ (restOf s at_).size < (numOf (restOf s at_).data.toList).2 + (numOf (restOf s at_).data.toList).1 then (ByteArray.empty, at_, 3)
     else ((restOf s at_).extract (numOf (restOf s at_).data.toList).2 ((numOf (restOf s at_).data.toList).2 + (numOf (restOf s at_).data.toList).1), at_ + ((numOf (restOf s at_).data.toList).2 + (numOf (restOf s at_).data.toList).1 : Nat), 0))
  else (ByteArray.empty, at_, err)

set_option maxHeartbeats 400000 in
set_option maxRecDepth 100000 in
theorem rString_any {T : Nat} (w : World) (b : Nat) (s : ByteArray) (at_ err : Int) (hr : RdAt w b T s at_ err) (hs : s.size ≤ 140737488355328) :
    Calls Try.prog 51 #[.pointer (some ⟨b, 0, none⟩)] w fun e w' => e = .returned (.string (rS s at_ err).1) ∧ RdAt w' b T s (rS s at_ err).2.1 (rS s at_ err).2.2 ∧ Chg (· = b) w w' := by
  have hc2 := cell_of_block (i := 2) hr rfl
  by_cases he : err = 0
  · subst he
    have hsz := restOf_size s at_
    have hpos := restOf_pos s at_
    have hnum := fun W => number_any (restOf s at_) W (by unfold maxLen; omega)
    have hbd := Kn.numOf_bounds (restOf s at_).data.toList
    have hU : rS s at_ 0 = (if (numOf (restOf s at_).data.toList).2 = 0 ∨ (restOf s at_).size < (numOf (restOf s at_).data.toList).2 + (numOf (restOf s at_).data.toList).1 then (ByteArray.empty, at_, 3)
     else ((restOf s at_).extract (numOf (restOf s at_).data.toList).2 ((numOf (restOf s at_).data.toList).2 + (numOf (restOf s at_).data.toList).1), at_ + ((numOf (restOf s at_).data.toList).2 + (numOf (restOf s at_).data.toList).1 : Nat), 0)) := by rw [rS, if_pos rfl]
    have hlen : (restOf s at_).data.toList.length = (restOf s at_).size := by simp
    go_enter Try.func51, Try.ntmps51
    go_wp2_with fail
    refine (rest_any w b s at_ 0 hr (by unfold maxLen; omega)).mono ?_
    rintro e w1 ⟨rfl, hch1⟩
    have hr1 := hr.keep hch1 (fun x => x)
    have hc1 := cell_of_block (i := 1) hr1 rfl
    have hz1 := frozen_of_block (i := 1) hr1
    generalize restOf s at_ = t at *
    rw [hlen] at hbd
    clear hlen
    obtain ⟨n, hn⟩ : ∃ n, (numOf t.data.toList).1 = n := ⟨_, rfl⟩
    obtain ⟨k, hk⟩ : ∃ k, (numOf t.data.toList).2 = k := ⟨_, rfl⟩
    rw [hn, hk] at hU hbd
    simp only [hn, hk] at hnum
    have HU := Lib.hid hU
    have HM := Lib.hid hnum
    have HP := Lib.hid hpos
    clear hn hk hU hnum hpos
    go_wp2_with fail
    refine (HM.out w1).mono ?_
    rintro e w2 ⟨rfl, rfl⟩
    by_cases hk0 : k ≤ 0
    · obtain rfl : k = 0 := by omega
      go_wp2_with fail
      refine (fail_any w1 b s at_ 0 3 hr1).mono ?_
      rintro e w3 ⟨rfl, hr3, hch3⟩
      go_wp2
      go_ret
      rw [HU.out, if_pos (.inl trivial)]
      exact ⟨rfl, hr3, (hch1.mono (fun _ _ x => x.elim)).trans' hch3⟩
    · by_cases hbig : t.size < k + n
      · go_wp2_with fail
        all_goals first | omega | skip
        refine (fail_any w1 b s at_ 0 3 hr1).mono ?_
        rintro e w3 ⟨rfl, hr3, hch3⟩
        go_wp2
        go_ret
        rw [HU.out, if_pos (.inr hbig)]
        exact ⟨rfl, hr3, (hch1.mono (fun _ _ x => x.elim)).trans' hch3⟩
      · have hb := HP.out (by omega)
        have hk1 : ((k : Int) == 0) = false := by rw [beq_eq_false_iff_ne]; omega
        go_wp2_with fail
        all_goals first | omega | skip
        go_ret
        rw [HU.out, if_neg (by omega)]
        exact ⟨rfl, hr1.set1 _, (hch1.mono (fun _ _ x => x.elim)).setCellR _ _ (fun _ => rfl)⟩
  · have hU : rS s at_ err = (ByteArray.empty, at_, err) := by rw [rS, if_neg he]
    have HU := Lib.hid hU
    clear hU
    go_enter Try.func51, Try.ntmps51
    go_wp2
    go_ret
    rw [HU.out]
    exact ⟨rfl, hr, Chg.refl _ _⟩

set_option maxHeartbeats 400000 in
set_option maxRecDepth 100000 in
theorem rDone_any {T : Nat} (w : World) (b : Nat) (s : ByteArray) (at_ err : Int) (hr : RdAt w b T s at_ err) (_hs : s.size ≤ 140737488355328) :
    Calls Try.prog 54 #[.pointer (some ⟨b, 0, none⟩)] w fun e w' => e = .returned (.int .i64 (if err ≠ 0 then err else if at_ ≠ s.size then 3 else 0)) ∧ Chg (fun _ => False) w w' := by
  have hc0 := cell_of_block (i := 0) hr rfl
  have hc1 := cell_of_block (i := 1) hr rfl
  have hc2 := cell_of_block (i := 2) hr rfl
  by_cases he : err = 0
  · subst he
    simp only [ne_eq, not_true, if_false]
    by_cases ha : at_ = s.size
    · subst ha
      simp only [not_true, if_false]
      go_enter Try.func54, Try.ntmps54
      go_wp2
      go_quiet (fail)
      go_wp2
      go_ret
      exact ⟨rfl, (Chg.refl _ w).drewNR _⟩
    · rw [if_pos ha]
      go_enter Try.func54, Try.ntmps54
      go_wp2
      go_quiet (fail)
      go_wp2
      go_ret
      exact ⟨rfl, (Chg.refl _ w).drewNR _⟩
  · rw [if_pos he]
    go_enter Try.func54, Try.ntmps54
    go_wp2
    go_ret
    exact ⟨rfl, Chg.refl _ _⟩

/-- What Count returns, and the Reader's new offset and error. -/
def rC (s : ByteArray) (at_ err most : Int) : Nat × Int × Int :=
  if err = 0 then
    (if (numOf (restOf s at_).data.toList).2 = 0 then (0, at_, 3) else if most.toNat < (numOf (restOf s at_).data.toList).1 then (0, at_, 5) else ((numOf (restOf s at_).data.toList).1, at_ + (numOf (restOf s at_).data.toList).2, 0))
  else (0, at_, err)

set_option maxHeartbeats 400000 in
set_option maxRecDepth 100000 in
theorem rCount_any {T : Nat} (w : World) (b : Nat) (s : ByteArray) (at_ err most : Int) (hm1 : -9223372036854775808 ≤ most) (hm2 : most < 9223372036854775808) (hr : RdAt w b T s at_ err) (hs : s.size ≤ 140737488355328) :
    Calls Try.prog 50 #[.pointer (some ⟨b, 0, none⟩), .int .i64 most] w fun e w' => e = .returned (.int .i64 (rC s at_ err most).1) ∧ RdAt w' b T s (rC s at_ err most).2.1 (rC s at_ err most).2.2 ∧ Chg (· = b) w w' := by
  have hc2 := cell_of_block (i := 2) hr rfl
  by_cases he : err = 0
  · subst he
    have hsz := restOf_size s at_
    have hnum := fun W => number_any (restOf s at_) W (by unfold maxLen; omega)
    have hnr := numOf_rest s at_
    have hU : rC s at_ 0 most = (if (numOf (restOf s at_).data.toList).2 = 0 then (0, at_, 3) else if most.toNat < (numOf (restOf s at_).data.toList).1 then (0, at_, 5) else ((numOf (restOf s at_).data.toList).1, at_ + (numOf (restOf s at_).data.toList).2, 0)) := by rw [rC, if_pos rfl]
    have hbd := Kn.numOf_bounds (restOf s at_).data.toList
    obtain ⟨n, hn⟩ : ∃ n, (numOf (restOf s at_).data.toList).1 = n := ⟨_, rfl⟩
    obtain ⟨k, hk⟩ : ∃ k, (numOf (restOf s at_).data.toList).2 = k := ⟨_, rfl⟩
    rw [hn, hk] at hU hbd
    rw [hk] at hnr
    simp only [hn, hk] at hnum
    have HU := Lib.hid hU
    have HM := Lib.hid hnum
    clear hn hk hU hnum
    go_enter Try.func50, Try.ntmps50
    go_wp2_with fail
    refine (rest_any w b s at_ 0 hr (by unfold maxLen; omega)).mono ?_
    rintro e w1 ⟨rfl, hch1⟩
    have hr1 := hr.keep hch1 (fun x => x)
    go_wp2_with fail
    refine (HM.out w1).mono ?_
    rintro e w2 ⟨rfl, rfl⟩
    have hc1 := cell_of_block (i := 1) hr1 rfl
    have hz1 := frozen_of_block (i := 1) hr1
    by_cases hk0 : k ≤ 0
    · obtain rfl : k = 0 := by omega
      go_wp2_with fail
      refine (fail_any w1 b s at_ 0 3 hr1).mono ?_
      rintro e w3 ⟨rfl, hr3, hch3⟩
      go_wp2
      go_ret
      rw [HU.out]
      exact ⟨rfl, hr3, (hch1.mono (fun _ _ x => x.elim)).trans' hch3⟩
    · have hb := hnr (by omega)
      by_cases hbig : most.toNat < n
      · by_cases h0 : most < 0
        · go_wp2_with fail
          all_goals first | omega | skip
          all_goals (
            refine (fail_any w1 b s at_ 0 5 hr1).mono ?_
            rintro e w3 ⟨rfl, hr3, hch3⟩
            go_wp2
            go_ret
            rw [HU.out, if_neg (by omega), if_pos hbig]
            exact ⟨rfl, hr3, (hch1.mono (fun _ _ x => x.elim)).trans' hch3⟩)
        · have hm0 : 0 ≤ most := by omega
          have hq : most < (n : Int) := by omega
          clear hnr h0
          go_wp2_with fail
          all_goals first | omega | skip
          all_goals (
            refine (fail_any w1 b s at_ 0 5 hr1).mono ?_
            rintro e w3 ⟨rfl, hr3, hch3⟩
            go_wp2
            go_ret
            rw [HU.out, if_neg (by omega), if_pos hbig]
            exact ⟨rfl, hr3, (hch1.mono (fun _ _ x => x.elim)).trans' hch3⟩)
      · by_cases h0 : most < 0
        · go_wp2
          all_goals first | omega | skip
          all_goals (
            go_ret
            rw [HU.out, if_neg (by omega), if_neg hbig]
            refine ⟨?_, hr1.set1 _, (hch1.mono (fun _ _ x => x.elim)).setCellR _ _ (fun _ => rfl)⟩
            rfl)
        · have hm0 : 0 ≤ most := by omega
          have hq : (n : Int) ≤ most := by omega
          clear hnr h0
          go_wp2_with fail
          all_goals first | omega | skip
          all_goals (
            go_ret
            rw [HU.out, if_neg (by omega), if_neg hbig]
            refine ⟨?_, hr1.set1 _, (hch1.mono (fun _ _ x => x.elim)).setCellR _ _ (fun _ => rfl)⟩
            first | rfl | skip)
  · have hU : rC s at_ err most = (0, at_, err) := by rw [rC, if_neg he]
    have HU := Lib.hid hU
    clear hU
    go_enter Try.func50, Try.ntmps50
    go_wp2
    go_ret
    rw [HU.out]
    exact ⟨rfl, hr, Chg.refl _ _⟩
end Go.Proofs.Ytaacafdlklnegaa
