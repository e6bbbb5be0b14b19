/-
  The reference of layer 35: Has, add.
-/
import Derived.Test.YthiiehanlconeaaOut
namespace Go.Proofs.Ythiiehanlconeaa
open Go.RowKit
set_option linter.unusedVariables false
set_option linter.unusedSimpArgs false

set_option maxHeartbeats 1600000 in
set_option maxRecDepth 100000 in
theorem rhas_any (w : World) (v : Value) (l : List Int) (n : Int) (hr : RowAt w 3 1 v l.length (intC l)) (hl : Few l.length) :
    Calls Try.prog 24 #[v, .int .i64 n] w fun e w' => e = .returned (.bool (decide (n ∈ l))) ∧ w = w' := by
  obtain ⟨a, c, rfl, -⟩ := hr.slice
  have HR := Lib.hid hr
  have hln : (l.length : Int) ≤ 9223372036854775807 := by have := hl.lt; omega
  clear hr hl
  go_enter Try.func24, Try.ntmps24
  go_wp2_with fail
  go_loop [5] (fun i => ∃ k : Nat, k ≤ l.length ∧ i = .int .i64 k ∧ Hid ((l.drop k).contains n = l.contains n)) (fun i => l.length - (intOf i).toNat)
  case atStart => exact ⟨0, Nat.zero_le _, rfl, rfl⟩
  case round =>
    obtain ⟨k, hk, rfl, HF⟩ := hrel
    by_cases hlt : k < l.length
    · have h0 : (0 : Int) ≤ (k : Int) := Int.natCast_nonneg _
      have h1 : (k : Int) < (l.length : Int) := by omega
      obtain ⟨g, off, cap, hv, -, -⟩ := HR.out.addr (by omega)
      cases hv
      have c0 := HR.out.cellAt k (.int .i64 l[k]) (by simp [intC, hlt])
      have hF := HF.out
      rw [List.drop_eq_getElem_cons hlt, List.contains_cons] at hF
      have w64 : IntKind.i64.wrap ((k : Int) + 1) = ((k + 1 : Nat) : Int) := IntWalk.i64_in _ (by omega)
      have HLT := Lib.hid hlt
      have HNX := Lib.hid (show k + 1 ≤ l.length from hlt)
      clear hk
      generalize l[k] = z at *
      clear hlt
      cases hq : z == n
      · have hq' : (n == z) = false := by simp at hq ⊢; omega
        rw [hq', Bool.false_or] at hF
        have HF2 := Lib.hid hF
        clear hF HF hq'
        go_wp2_with fail
        go_round
        case rel => exact ⟨k + 1, HNX.out, rfl, HF2⟩
        case measure => have := HLT.out; simp [intOf, w64]; omega
      · have hq' : (n == z) = true := by simp at hq ⊢; omega
        rw [hq', Bool.true_or] at hF
        have HF2 := Lib.hid hF
        clear hF HF hq'
        go_wp2_with fail
        go_ret
        have hm : n ∈ l := by simpa using HF2.out.symm
        rw [decide_eq_true hm]
        exact ⟨rfl, rfl⟩
    · have hF := HF.out
      rw [List.drop_of_length_le (by omega)] at hF
      have hk2 : k = l.length := by omega
      subst hk2
      have HF2 := Lib.hid hF
      clear hF HF hlt hk
      go_wp2_with fail
      go_ret
      have hm : ¬ n ∈ l := by simpa using HF2.out.symm
      rw [decide_eq_false hm]
      exact ⟨rfl, rfl⟩
def addI (l : List Int) (n count : Int) : List Int := if n < 0 ∨ count ≤ n ∨ n ∈ l then l else l ++ [n]

set_option maxHeartbeats 1600000 in
set_option maxRecDepth 100000 in
theorem radd_any (w0 w : World) (v : Value) (l : List Int) (n count : Int) (H : OutI w0 w v l) (hl : Few (l.length + 1)) :
    Calls Try.prog 32 #[v, .int .i64 n, .int .i64 count] w fun e w' => ∃ v', e = .returned v' ∧ OutI w0 w' v' (addI l n count) ∧ Chg (fun _ => False) w w' := by
  have HF := Lib.hid (rhas_any w v l n H.row ⟨by have := hl.lt; omega⟩)
  have HH := Lib.hid H
  have HL := Lib.hid hl
  obtain ⟨a, c, rfl, -⟩ := H.val
  obtain ⟨r, hr⟩ : ∃ r, r = addI l n count := ⟨_, rfl⟩
  rw [← hr]
  have HRR := Lib.hid hr
  clear H hl hr
  by_cases h1 : n < 0
  · have HE : Hid (r = l) := Lib.hid (by rw [HRR.out]; unfold addI; rw [if_pos (.inl h1)])
    clear HF HRR
    go_enter Try.func32, Try.ntmps32
    go_wp2_with fail
    go_ret
    exact ⟨_, rfl, by rw [HE.out]; exact HH.out, Chg.refl _ _⟩
  · have h1' : 0 ≤ n := by omega
    by_cases h2 : count ≤ n
    · have HE : Hid (r = l) := Lib.hid (by rw [HRR.out]; unfold addI; rw [if_pos (.inr (.inl h2))])
      clear HF HRR h1'
      go_enter Try.func32, Try.ntmps32
      go_wp2_with fail
      go_ret
      exact ⟨_, rfl, by rw [HE.out]; exact HH.out, Chg.refl _ _⟩
    · cases h3 : decide (n ∈ l) with
      | true =>
        have HE : Hid (r = l) := Lib.hid (by rw [HRR.out]; unfold addI; rw [if_pos (.inr (.inr (by simpa using h3)))])
        rw [h3] at HF
        clear HRR h1' h3
        go_enter Try.func32, Try.ntmps32
        go_wp2_with (first | (go_at_call 24; refine HF.out.mono ?_; rintro e w2 ⟨rfl, rfl⟩))
        go_ret
        exact ⟨_, rfl, by rw [HE.out]; exact HH.out, Chg.refl _ _⟩
      | false =>
        have HE : Hid (r = [] ++ l ++ [n]) := Lib.hid (by rw [HRR.out]; unfold addI; rw [if_neg (by rintro (x | x | x); exact h1 x; exact h2 x; exact (by simpa using h3 : ¬ n ∈ l) x)]; rfl)
        rw [h3] at HF
        have HO0 : Hid (OutI w (w.alloc (.cells #[] 3)) (.slice (some ⟨w.heap.size, 0, none⟩) 0 0) []) := Lib.hid ⟨RowAt.lit [] rfl (by simp [maxLen]), fun k hk => by simp [Value.ownBlock] at hk; omega, Chg.alloc _ _ _⟩
        clear HRR h1' h3
        go_enter Try.func32, Try.ntmps32
        go_upto_region 3 with (first | (go_at_call 24; refine HF.out.mono ?_; rintro e w2 ⟨rfl, rfl⟩))
        have HR1 := Lib.hid (HH.out.row.alloc (.cells #[] 3))
        go_wp2_with (first
          | (at_builtin; refine wpList_out rfl (.tmp 20) (.tmp 21) rfl _ [] rfl HO0.out _ l rfl HR1.out (⟨by have := HL.out.lt; simp; omega⟩ : Few _) ?_; intro a1 n1 c1 W1 HO1 hch1 hold1; have HO1' := Lib.hid (HO1.alloc (.cells #[.int .i64 n] 3)); clear HO0)
          | (at_builtin; refine wpList_out rfl (.tmp 22) (.tmp 24) rfl _ ([] ++ l) rfl HO1'.out _ [n] rfl (RowAt.lit [.int .i64 n] rfl (by simp [maxLen])) (⟨by have := HL.out.lt; simp; omega⟩ : Few _) ?_; intro a2 n2 c2 W2 HO2 hch2 hold2))
        go_ret
        exact ⟨_, rfl, by rw [HE.out]; exact ⟨HO2.row, fun k hk => Nat.le_trans HH.out.chg.size (HO2.lo k hk), HH.out.chg.trans' HO2.chg⟩, HO2.chg⟩
end Go.Proofs.Ythiiehanlconeaa
