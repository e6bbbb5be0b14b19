/-
  The law's lists of handles and of numbers.
-/
import Derived.Test.YthiiehanlconeaaOut
import Derived.Test.YthiiehanlconeaaOpen
import Derived.Test.YthiiehanlconeaaOpenc
namespace Go.Proofs.Ythiiehanlconeaa
open Go.RowKit
set_option linter.unusedVariables false
set_option linter.unusedSimpArgs false

def u8C (zs : List Nat) : List Value := zs.map fun z : Nat => Value.int .u8 (z : Int)
theorem u8C_len (zs : List Nat) : (u8C zs).length = zs.length := List.length_map ..
def handlesM (L : List Int) (zs : List Nat) : List Int := zs.map fun z => L.getD (z % L.length) 0
def numbersM (n : Nat) (zs : List Nat) : List Int := zs.map fun z => ((z % n : Nat) : Int)
theorem tmod_nat (z n : Nat) : ((z : Int)).tmod (n : Int) = ((z % n : Nat) : Int) := by
  rw [Int.tmod_eq_emod_of_nonneg (by omega)]
  rfl
/-- A number of a row that came in. -/
theorem argU8 {w : World} {v : Value} {zs : List Nat} (h : ArgRow w v (u8C zs)) {k : Nat} (hk : k < zs.length) : ∃ g off cap, v = .slice (some ⟨g, off, none⟩) zs.length cap ∧ w.cell? ⟨g, off + k, none⟩ = some (.int .u8 (zs[k] : Nat)) := by
  obtain ⟨a, cap, rfl, -, -, h3⟩ := h
  obtain ⟨g, off, rfl, -, hc⟩ := h3 (by intro e; have := congrArg List.length e; rw [u8C_len, List.length_nil] at this; omega)
  rw [u8C_len]
  exact ⟨g, off, cap, rfl, hc k _ (by simp [u8C, hk])⟩

set_option maxHeartbeats 1600000 in
set_option maxRecDepth 100000 in
theorem handles_any (w : World) (vl vz : Value) (L : List Int) (zs : List Nat) (hL : RowAt w 3 1 vl L.length (intC L)) (hz : ArgRow w vz (u8C zs)) (h8 : ∀ z ∈ zs, z < 256) (hn : 0 < L.length) (hl : L.length ≤ 1000) (hzl : zs.length ≤ 1000) :
    Calls Try.prog 11 #[vl, vz] w fun e w' => ∃ v', e = .returned v' ∧ OutI w w' v' (handlesM L zs) := by
  obtain ⟨gl, ol, cl, rfl, -, -⟩ := hL.addr hn
  obtain ⟨az, cz, rfl, -⟩ : ∃ a c, vz = .slice a zs.length c ∧ True := by
    obtain ⟨a, c, e, -⟩ := hz
    rw [u8C_len] at e
    exact ⟨a, c, e, trivial⟩
  have HL := Lib.hid hL
  have HZ := Lib.hid hz
  have H8 := Lib.hid h8
  have HZL := Lib.hid hzl
  have hln : (zs.length : Int) ≤ 9223372036854775807 := by omega
  have z0 : ((L.length : Int) == 0) = false := beq_false_of_ne (by omega)
  have HNP := Lib.hid hn
  have HLL := Lib.hid hl
  clear hL hz h8 hl hzl hn
  go_enter Try.func11, Try.ntmps11
  go_wp2_with fail
  go_loopw [5, 6] (fun u5 u6 wr => ∃ (k : Nat) (a : Option Addr) (n c : Nat), k ≤ zs.length ∧ u6 = .int .i64 k ∧ u5 = .slice a n c ∧ OutI w wr (.slice a n c) (handlesM L (zs.take k))) (fun _ u6 _ => zs.length - (intOf u6).toNat)
  case atStart => exact ⟨0, none, 0, 0, by omega, rfl, rfl, OutI.nil w⟩
  case round =>
    obtain ⟨k, a, n, c, hk, rfl, rfl, HO⟩ := hrel
    by_cases hlt : k < zs.length
    · have h0 : (0 : Int) ≤ (k : Int) := by omega
      have h1 : (k : Int) < (zs.length : Int) := by omega
      obtain ⟨gz, oz, cz', hv, c0⟩ := argU8 HZ.out hlt
      cases hv
      have c0' := HO.chg.cell c0
      have hm := tmod_nat zs[k] L.length
      have hmlt : zs[k] % L.length < L.length := Nat.mod_lt _ HNP.out
      have HT : Hid (handlesM L (zs.take (k + 1)) = handlesM L (zs.take k) ++ [L.getD (zs[k] % L.length) 0]) := Lib.hid (by unfold handlesM; rw [List.take_succ_eq_append_getElem hlt, List.map_append]; rfl)
      have hz8 := H8.out _ (List.getElem_mem hlt)
      have cL := (HL.out.chg HO.chg (fun _ _ x => x)).cellAt (zs[k] % L.length) (.int .i64 (L.getD (zs[k] % L.length) 0)) (by simp [intC, hmlt])
      have w64 : IntKind.i64.wrap ((k : Int) + 1) = ((k + 1 : Nat) : Int) := IntWalk.i64_in _ (by omega)
      have HLT := Lib.hid hlt
      have HNX := Lib.hid (show k + 1 ≤ zs.length from hlt)
      have HFW : Hid (Few ((handlesM L (zs.take k)).length + 1)) := Lib.hid ⟨by unfold handlesM; rw [List.length_map, List.length_take]; have := HZL.out; omega⟩
      clear hk c0
      generalize zs[k] = z at *
      clear hlt
      have wz : IntKind.i64.wrap (z : Int) = (z : Int) := IntWalk.i64_in _ (by omega)
      generalize hq : z % L.length = q at *
      have q0 : (0 : Int) ≤ (q : Int) := by omega
      have q1 : (q : Int) < (L.length : Int) := by omega
      generalize L.getD q 0 = y at *
      have HO1 := Lib.hid (HO.alloc (.cells #[.int .i64 y] 3))
      clear HO hq hmlt hz8
      go_wp2_with (first
        | (at_builtin; refine wpList_out rfl (.tmp 13) (.tmp 25) rfl _ (handlesM L (zs.take k)) rfl HO1.out _ [y] rfl (RowAt.lit [.int .i64 y] rfl (by simp [maxLen])) HFW.out ?_; intro a2 n2 c2 w2 HO2 hch2 _))
      go_roundw
      case rel => exact ⟨k + 1, a2, n2, c2, HNX.out, rfl, rfl, by rw [HT.out]; exact HO2⟩
      case measure => have := HLT.out; simp [intOf, w64]; omega
    · have hk2 : k = zs.length := by omega
      subst hk2
      rw [List.take_length] at HO
      have HO1 := Lib.hid HO
      clear HO hlt hk
      go_wp2_with fail
      go_ret
      exact ⟨_, rfl, HO1.out⟩

set_option maxHeartbeats 1600000 in
set_option maxRecDepth 100000 in
theorem numbers_any (w : World) (N : Nat) (vz : Value) (zs : List Nat) (hz : ArgRow w vz (u8C zs)) (h8 : ∀ z ∈ zs, z < 256) (hn : 0 < N) (hl : N ≤ 1000) (hzl : zs.length ≤ 1000) :
    Calls Try.prog 13 #[.int .i64 (N : Int), vz] w fun e w' => ∃ v', e = .returned v' ∧ OutI w w' v' (numbersM N zs) := by
  obtain ⟨az, cz, rfl, -⟩ : ∃ a c, vz = .slice a zs.length c ∧ True := by
    obtain ⟨a, c, e, -⟩ := hz
    rw [u8C_len] at e
    exact ⟨a, c, e, trivial⟩
  have HZ := Lib.hid hz
  have H8 := Lib.hid h8
  have HZL := Lib.hid hzl
  have hln : (zs.length : Int) ≤ 9223372036854775807 := by omega
  have z0 : ((N : Int) == 0) = false := beq_false_of_ne (by omega)
  have z1 : ¬ N = 0 := by omega
  have z2 : ¬ (N : Int) = 0 := by omega
  clear hz h8 hl hzl hn
  go_enter Try.func13, Try.ntmps13
  go_wp2_with fail
  go_loopw [5, 6] (fun u5 u6 wr => ∃ (k : Nat) (a : Option Addr) (n c : Nat), k ≤ zs.length ∧ u6 = .int .i64 k ∧ u5 = .slice a n c ∧ OutI w wr (.slice a n c) (numbersM N (zs.take k))) (fun _ u6 _ => zs.length - (intOf u6).toNat)
  case atStart => exact ⟨0, none, 0, 0, by omega, rfl, rfl, OutI.nil w⟩
  case round =>
    obtain ⟨k, a, n, c, hk, rfl, rfl, HO⟩ := hrel
    by_cases hlt : k < zs.length
    · have h0 : (0 : Int) ≤ (k : Int) := by omega
      have h1 : (k : Int) < (zs.length : Int) := by omega
      obtain ⟨gz, oz, cz', hv, c0⟩ := argU8 HZ.out hlt
      cases hv
      have c0' := HO.chg.cell c0
      have hm := tmod_nat zs[k] N
      have HT : Hid (numbersM N (zs.take (k + 1)) = numbersM N (zs.take k) ++ [((zs[k] % N : Nat) : Int)]) := Lib.hid (by unfold numbersM; rw [List.take_succ_eq_append_getElem hlt, List.map_append]; rfl)
      have hz8 := H8.out _ (List.getElem_mem hlt)
      have w64 : IntKind.i64.wrap ((k : Int) + 1) = ((k + 1 : Nat) : Int) := IntWalk.i64_in _ (by omega)
      have HLT := Lib.hid hlt
      have HNX := Lib.hid (show k + 1 ≤ zs.length from hlt)
      have HFW : Hid (Few ((numbersM N (zs.take k)).length + 1)) := Lib.hid ⟨by unfold numbersM; rw [List.length_map, List.length_take]; have := HZL.out; omega⟩
      clear hk c0
      generalize zs[k] = z at *
      clear hlt
      have wz : IntKind.i64.wrap (z : Int) = (z : Int) := IntWalk.i64_in _ (by omega)
      generalize z % N = q at *
      have HO1 := Lib.hid (HO.alloc (.cells #[.int .i64 (q : Int)] 3))
      clear HO hz8
      go_wp2_with (first
        | (at_builtin; refine wpList_out rfl (.tmp 13) (.tmp 21) rfl _ (numbersM N (zs.take k)) rfl HO1.out _ [(q : Int)] rfl (RowAt.lit [.int .i64 (q : Int)] rfl (by simp [maxLen])) HFW.out ?_; intro a2 n2 c2 w2 HO2 hch2 _))
      go_roundw
      case rel => exact ⟨k + 1, a2, n2, c2, HNX.out, rfl, rfl, by rw [HT.out]; exact HO2⟩
      case measure => have := HLT.out; simp [intOf, w64]; omega
    · have hk2 : k = zs.length := by omega
      subst hk2
      rw [List.take_length] at HO
      have HO1 := Lib.hid HO
      clear HO hlt hk
      go_wp2_with fail
      go_ret
      exact ⟨_, rfl, HO1.out⟩
end Go.Proofs.Ythiiehanlconeaa
