/-
  CodecAffine: for every three strings the checksum of their exclusive or is the exclusive or of their checksums.
-/
import Derived.Test.YtehdimblkaefhaaLaw
import Derived.Test.YtehdimblkaefhaaFit
import Derived.Test.YtehdimblkaefhaaPlainc
import Derived.StillTailTactics
import Derived.Deep.DeepCutAuto
namespace Go.Proofs.Ytehdimblkaefhaa
open Go.ChangeShapes Go.WideShapes Go.ChangeAt Go.RowKit
open Go.ChangeMaps (open_string shut_string)
set_option linter.unusedVariables false

theorem byte_xor3 (x y z : UInt8) : Value.int .u8 (bits BinOp.xor IntKind.u8 (bits BinOp.xor IntKind.u8 (x.toNat : Int) (y.toNat : Int)) (z.toNat : Int)) = byteV (x ^^^ y ^^^ z) := by
  have hx := x.toNat_lt
  have hy := y.toNat_lt
  have hz := z.toNat_lt
  rw [u8_xor_nat _ _ (by omega) (by omega), u8_xor_nat _ _ (Nat.xor_lt_two_pow (n := 8) (by omega) (by omega)) (by omega)]
  simp [byteV]
theorem quiet_left {P : Program} {f : FuncId} {args : Array Value} {w : World} {n : Nat} {v : Value}
    (h : Calls P f args (w.drewN n) fun e w' => e = .returned v ∧ w.drewN n = w') : Calls P f args (w.drewN n) fun e w'' => e = .returned v ∧ ∃ m, w'' = w.drewN m :=
  h.mono fun _ _ ⟨he, hm⟩ => ⟨he, n, hm.symm⟩

set_option maxHeartbeats 800000 in
set_option maxRecDepth 100000 in
theorem codecAffine_walk (a b c : ByteArray) (w : World) (ha : a.size ≤ 140737488351232) (hb : b.size ≤ 140737488351232) (hc : c.size ≤ 140737488351232) :
    Calls Try.prog 6 #[.string a, .string b, .string c] w fun e w' => e = .returned (.bool true) ∧ Below w.heap.size w w' := by
  go_enter Try.func6, Try.ntmps6
  go_wp2_with fail
  refine (fit_any _).mono ?_
  rintro e w1 ⟨rfl, hc1⟩
  go_upto_region 3 with fail
  go_cut [7] (fun s7 wx => ∃ n : Nat, s7 = .int .i64 n ∧ n ≤ a.size ∧ n ≤ b.size ∧ n ≤ c.size ∧ w1 = wx)
  case first =>
    go_wp2_with fail
    all_goals (go_meet; first | exact ⟨a.size, rfl, by omega, by omega, by omega, rfl⟩ | exact ⟨b.size, rfl, by omega, by omega, by omega, rfl⟩ | exact ⟨c.size, rfl, by omega, by omega, by omega, rfl⟩)
  case rest =>
    obtain ⟨n, rfl, hna, hnb, hnc, rfl⟩ := hcut
    go_wp2_with fail
    go_loopw [8, 9] (fun v i wr => ∃ k : Nat, k ≤ n ∧ i = .int .i64 k ∧ RowAt wr 5 1 v k ((Kn.x3 (a.data.toList.take k) (b.data.toList.take k) (c.data.toList.take k)).map byteV) ∧ (∀ g, v.ownBlock = some g → w.heap.size ≤ g) ∧ Chg (fun _ => False) w wr)
      (fun _ i _ => n - (intOf i).toNat)
    case atStart => exact ⟨0, Nat.zero_le _, rfl, RowAt.nil _ _ _, by simp [Value.ownBlock], hc1⟩
    case round =>
      obtain ⟨k, hk, rfl, hrow, hown, hchg⟩ := hrel
      by_cases hlt : k < n
      · have hka : k < a.size := by omega
        have hkb : k < b.size := by omega
        have hkc : k < c.size := by omega
        have h0 : (0 : Int) ≤ (k : Int) := Int.natCast_nonneg _
        have h1 : (k : Int) < (a.size : Int) := by omega
        have h2 : (k : Int) < (b.size : Int) := by omega
        have h3 : (k : Int) < (c.size : Int) := by omega
        have hlen : (Kn.x3 (a.data.toList.take k) (b.data.toList.take k) (c.data.toList.take k)).length = k := by
          rw [Kn.x3_length _ _ _ (by simp; omega) (by simp; omega)]; simp; omega
        have HS : Hid (Kn.x3 (a.data.toList.take (k + 1)) (b.data.toList.take (k + 1)) (c.data.toList.take (k + 1)) = Kn.x3 (a.data.toList.take k) (b.data.toList.take k) (c.data.toList.take k) ++ [a[k]'hka ^^^ b[k]'hkb ^^^ c[k]'hkc]) := by
          rw [take_snoc a k (by omega), take_snoc b k (by omega), take_snoc c k (by omega)]
          exact Kn.x3_snoc _ _ _ _ _ _ (by simp; omega) (by simp; omega)
        generalize Kn.x3 (a.data.toList.take k) (b.data.toList.take k) (c.data.toList.take k) = bs at *
        have HL := Lib.hid hlen
        clear hlen
        rw [← HL.out] at hrow
        go_wp2_with fail
        go_region_held3 (fun _ => True) (trivial)
          ((refine step_append_byte (by rfl) _ _ (by rfl) _ bs (a[k]'hka ^^^ b[k]'hkb ^^^ c[k]'hkc) wr.heap.size (by rfl) ((hrow.alloc _).drew) (by rfl) (by simp [World.cell?_alloc_new, byte_xor3]) (by rw [HL.out]; omega) ?_; intro a1 n1 c1 w2 hrow2 hchg2 hold2))
        all_goals (
          go_wp2_with fail
          go_roundw
          case rel =>
            refine ⟨k + 1, by omega, by go_num, ?_, ?_, ?_⟩
            · rw [HS.out, show k + 1 = (bs ++ [a[k]'hka ^^^ b[k]'hkb ^^^ c[k]'hkc]).length from by simp [HL.out]]; exact hrow2
            · intro g hg
              rcases hold2 g hg with x | x
              · exact hown g x
              · have := hchg.size; simp at x; omega
            · refine ((hchg.allocR _).drewR).trans hchg2 (fun _ _ x => x) ?_
              intro i hi x
              have := hown i x
              omega
          case measure => simp [intOf]; omega)
      · obtain rfl : k = n := by omega
        have hlen : (Kn.x3 (a.data.toList.take k) (b.data.toList.take k) (c.data.toList.take k)).length = k := by
          rw [Kn.x3_length _ _ _ (by simp; omega) (by simp; omega)]; simp; omega
        have hcrc := Kn.crc_x3 (a.data.toList.take k) (b.data.toList.take k) (c.data.toList.take k) (by simp; omega) (by simp; omega)
        have hconv := fun m => run_convert_row (RowAt.drewN (Eq.mpr (congrArg (fun q => RowAt wr 5 1 u8 q _) hlen) hrow) m)
        have hl1 : (⟨(Kn.x3 (a.data.toList.take k) (b.data.toList.take k) (c.data.toList.take k)).toArray⟩ : ByteArray).size ≤ maxLen := by
          show (Kn.x3 (a.data.toList.take k) (b.data.toList.take k) (c.data.toList.take k)).toArray.size ≤ maxLen
          rw [List.size_toArray, hlen]; unfold maxLen; omega
        have hl2 : (a.extract 0 k).size ≤ maxLen := by rw [ByteArray.size_extract]; unfold maxLen; omega
        have hl3 : (b.extract 0 k).size ≤ maxLen := by rw [ByteArray.size_extract]; unfold maxLen; omega
        have hl4 : (c.extract 0 k).size ≤ maxLen := by rw [ByteArray.size_extract]; unfold maxLen; omega
        have h0 : (0 : Int) ≤ (k : Int) := Int.natCast_nonneg _
        have h1 : (k : Int) ≤ (a.size : Int) := by omega
        have h2 : (k : Int) ≤ (b.size : Int) := by omega
        have h3 : (k : Int) ≤ (c.size : Int) := by omega
        have HC := Lib.hid hcrc
        clear hcrc hlen
        go_wp2_with fail
        go_quiet ((go_at_call 18; exact quiet_left (sum_any _ _ (by assumption))))
        go_wp2_with fail
        go_ret
        refine ⟨?_, (hchg.drewNR _).below (Nat.le_refl _) (fun _ h => h.elim)⟩
        show Ending.returned (.bool _) = _
        rw [u32_xor_nat _ _ (Kn.crc_lt _) (Kn.crc_lt _), u32_xor_nat _ _ (Nat.xor_lt_two_pow (n := 32) (Kn.crc_lt _) (Kn.crc_lt _)) (Kn.crc_lt _), HC.out]
        simp

set_option maxRecDepth 100000 in
theorem codecAffine_lifted (os : Os) (started : os.Started) (H : Type) (enc : TypeId × Value → H) :
    ReturnsInHanded {} Try.checked os 6 .any (Rows.codecAffineSpec.pre6 enc Try.prog Try.f6 [] false) (Rows.codecAffineSpec.post enc Try.prog Try.f6 false true false false) := by
  refine law_lift (C := Try.checked) (tb := 4) started Try.own Try.laidOut (by kernel_rfl) Try.func6 (by kernel_rfl) rfl Try.underlying4 rfl ?_
    (ChangeSpec.witness6 (enc := enc) (C := Try.checked) false ⟨#[], #[.string ByteArray.empty, .string ByteArray.empty, .string ByteArray.empty], []⟩ 8 (by kernel_rfl) (by kernel_rfl) (by kernel_rfl) (by kernel_rfl)) ?_
  · intro ds h
    match ds, h with
    | [_, _, _], _ => rfl
  · intro W base vs ds ps hval hA hsz
    have hp : Try.f6.params.toList = [9, 9, 9] := by rw [Try.params6]
    rw [hp] at hval hA hsz
    obtain ⟨v0, vs0, d0, ds0, p0, q0, rfl, rfl, rfl, h0, r0⟩ := trodAll_cons hA
    obtain ⟨v1, vs1, d1, ds1, p1, q1, rfl, rfl, rfl, h1, r1⟩ := trodAll_cons r0
    obtain ⟨v2, vs2, d2, ds2, p2, q2, rfl, rfl, rfl, h2, r2⟩ := trodAll_cons r1
    obtain ⟨rfl, rfl, rfl⟩ := trodAll_nil r2
    obtain ⟨a0, rfl, rfl, rfl, w0⟩ := open_string Try.underlying9 (hval 0 9 v0 rfl rfl) h0
    have l0 : a0.size ≤ 140737488351232 := by have := sized_string hsz (j := 0) (t := 9) rfl rfl; simpa [reachBytes] using this
    obtain ⟨a1, rfl, rfl, rfl, w1⟩ := open_string Try.underlying9 (hval 1 9 v1 rfl rfl) h1
    have l1 : a1.size ≤ 140737488351232 := by have := sized_string hsz (j := 1) (t := 9) rfl rfl; simpa [reachBytes] using this
    obtain ⟨a2, rfl, rfl, rfl, w2⟩ := open_string Try.underlying9 (hval 2 9 v2 rfl rfl) h2
    have l2 : a2.size ≤ 140737488351232 := by have := sized_string hsz (j := 2) (t := 9) rfl rfl; simpa [reachBytes] using this
    exact codecAffine_walk a0 a1 a2 W l0 l1 l2

theorem codecAffine_holds : Rows.CodecAffineSaid :=
  OpenClaim.holds_of_wide 6 Try.f6 rfl rfl rfl rfl rfl rfl rfl ⟨rfl, rfl, rfl, rfl, rfl⟩ rfl rfl rfl rfl rfl (by kernel_rfl) Try.func6 (by kernel_rfl)
    (of_decide_eq_true (by kernel_rfl)) (by unfold Func.isWrapper; first | (rw [if_pos (by decide +kernel)]; kernel_rfl) | (rw [if_neg (by decide +kernel)]; exact ⟨rfl, rfl⟩))
    (fun os started H enc _ => codecAffine_lifted os started H enc)
#print axioms codecAffine_holds
end Go.Proofs.Ytehdimblkaefhaa
