/-
  HeapKeys: the card.
-/
import Derived.Test.YtjianickjahdnaaDoorPHeapKeysf
import Derived.Test.YtjianickjahdnaaDoorPHeapKeysj
import Derived.Test.YtjianickjahdnaaDoorRows
import Derived.MakeChecks
import Derived.Test.YtjianickjahdnaaDoorPHeapKeysi
import Derived.Test.YtjianickjahdnaaDoorPHeapKeysa
import Derived.Stop.LaidErr
import Derived.Lib.LaidTab
import Derived.Deep.DeepHandedRow
import Derived.SevenTiedAt
import Derived.Lay
import Derived.LaidMore
import Derived.Stop.Joined
import Derived.Test.YtjianickjahdnaaDoorCards
import Derived.Test.YtjianickjahdnaaDoorTie
namespace Go.Proofs.YtjianickjahdnaaDoor
open Go.RowKit
set_option linter.unusedVariables false
set_option linter.unusedSimpArgs false

section
variable {H : Type} {enc : TypeId × Value → H}
theorem list4 {x : List Value} {a b c d : Value} (hl : x.length = 4) (h0 : x[0]? = some a) (h1 : x[1]? = some b) (h2 : x[2]? = some c) (h3 : x[3]? = some d) : x = [a, b, c, d] := by
  match x, hl with
  | [_, _, _, _], _ => simp_all
set_option maxRecDepth 100000 in
theorem open_value {w : World} {base : Nat} {v : Value} {d : DataW H} {ps : List MemPlace} (hv : Value.okWide Tryd.prog w .any base 36 v) (h : DataW.Trod enc Tryd.prog w 0 (fun _ => true) true 36 v d ps) :
    ∃ x : Val, v = .agg #[.int .i64 x.kind, .int .i64 x.int, .string x.str, .int .i64 x.ref] ∧ (-9223372036854775808 ≤ x.int ∧ x.int ≤ 9223372036854775807) ∧ x.str.size ≤ maxLen := by
  have e1 : IntKind.i64.min = -9223372036854775808 := by decide
  have e2 : IntKind.i64.max = 9223372036854775807 := by decide
  have c1 : Tryd.prog.cellsOf 3 = 1 := by kernel_rfl
  have c2 : Tryd.prog.cellsOf 2 = 1 := by kernel_rfl
  have c3 : Tryd.prog.cellsOf 9 = 1 := by kernel_rfl
  have cv : Tryd.prog.cellsOf 36 = 4 := by kernel_rfl
  obtain ⟨cs, rfl, hl, hf⟩ := open_struct Tryd.underlying36 hv h
  rw [cv] at hl
  obtain ⟨n0, y0, k0⟩ := hf 0 _ rfl
  obtain ⟨n1, y1, k1⟩ := hf 1 _ rfl
  obtain ⟨n2, y2, k2⟩ := hf 2 _ rfl
  obtain ⟨n3, y3, k3⟩ := hf 3 _ rfl
  obtain ⟨N0, b0, r0⟩ := cell_int Tryd.underlying3 c1 k0
  obtain ⟨N1, b1, r1⟩ := cell_int Tryd.underlying2 c2 k1
  obtain ⟨s2, b2, r2⟩ := cell_string Tryd.underlying9 c3 k2
  obtain ⟨N3, b3, r3⟩ := cell_int Tryd.underlying3 c1 k3
  rw [e1, e2] at r1
  refine ⟨⟨N0, N1, s2, N3⟩, ?_, r1, r2⟩
  have := list4 hl b0 b1 b2 b3
  congr 1
  rw [← Array.toList_inj]
  exact this
end
theorem rep_len (s : ByteArray) : ∀ (fuel pos : Nat), (repFrom s fuel pos).length ≤ 4 * (s.size - pos)
  | 0, pos => by show 0 ≤ _; omega
  | fuel + 1, pos => by
    by_cases hp : pos < s.size
    · have ih := rep_len s fuel (pos + (Utf8.decode s pos).2)
      have hw := width_pos s pos hp
      have hl4 := Lib.runeCells_le ((Utf8.decode s pos).1 : Int)
      rw [Lib.runeCells_length] at hl4
      rw [repFrom, if_pos hp, List.length_append]
      omega
    · rw [repFrom_end s _ pos hp]; show 0 ≤ _; omega
theorem repair_len (s : ByteArray) : (repairM s).size ≤ 4 * s.size := by
  unfold repairM
  split
  · omega
  · show (repB s).toArray.size ≤ _
    rw [List.size_toArray]
    have := rep_len s s.size 0
    unfold repB
    omega
theorem normM_kind (x : Val) : (normM x).kind = 0 ∨ (normM x).kind = 1 ∨ (normM x).kind = 2 ∨ (normM x).kind = 3 ∨ (normM x).kind = 4 ∨ (normM x).kind = 5 ∨ (normM x).kind = 6 := by
  unfold normM
  repeat' split
  all_goals simp
theorem kind_of (y : Val) (h : y.kind = 0 ∨ y.kind = 1 ∨ y.kind = 2 ∨ y.kind = 3 ∨ y.kind = 4 ∨ y.kind = 5 ∨ y.kind = 6) : (normM y).kind = y.kind := by
  unfold normM
  rcases h with h | h | h | h | h | h | h <;> rw [h] <;> rfl
theorem normM_same (x : Val) : (normM (normM x)).kind = (normM x).kind := kind_of _ (normM_kind x)
theorem normM_int (x : Val) (h : -9223372036854775808 ≤ x.int ∧ x.int ≤ 9223372036854775807) : -9223372036854775808 ≤ (normM x).int ∧ (normM x).int ≤ 9223372036854775807 := by
  unfold normM
  repeat' split
  all_goals first | exact h | (dsimp only; omega) | (dsimp only; split <;> omega)
theorem normM_str (x : Val) (n : Nat) (h : x.str.size ≤ n) : (normM x).str.size ≤ 4 * n := by
  have := repair_len x.str
  unfold normM
  repeat' split
  all_goals first | (show 0 ≤ _; omega) | (show (repairM x.str).size ≤ _; omega)
theorem showM_len (y : Val) (h : y.str.size ≤ 1000) (hi : -9223372036854775808 ≤ y.int ∧ y.int ≤ 9223372036854775807) : (showM y).size ≤ 1000 := by
  unfold showM
  split
  · show (Lib.itoa y.int).toArray.size ≤ 1000
    rw [List.size_toArray]
    by_cases hn : 0 ≤ y.int
    · obtain ⟨n, hy⟩ : ∃ n : Nat, y.int = (n : Int) := ⟨y.int.toNat, by omega⟩
      rw [hy, Lib.itoa_nonneg]
      exact Nat.le_trans (dec_len 18 n (by omega)) (by omega)
    · obtain ⟨n, hy⟩ : ∃ n : Nat, y.int = -(n : Int) := ⟨y.int.natAbs, by omega⟩
      rw [hy, Lib.itoa_neg n (by omega), List.length_cons]
      have := dec_len 18 n (by omega)
      omega
  · exact h
set_option maxHeartbeats 3200000 in
set_option maxRecDepth 100000 in
theorem key_in2 (w : World) (x y z : Val) (HN : ∀ W, Chg (fun _ => False) w W → Calls Tryd.prog 37 #[.agg #[.int .i64 x.kind, .int .i64 x.int, .string x.str, .int .i64 x.ref]] W fun e w' => e = .returned (.agg #[.int .i64 y.kind, .int .i64 y.int, .string y.str, .int .i64 y.ref]) ∧ Chg (fun _ => False) W w') (HN2 : ∀ W, Chg (fun _ => False) w W → Calls Tryd.prog 37 #[.agg #[.int .i64 y.kind, .int .i64 y.int, .string y.str, .int .i64 y.ref]] W fun e w' => e = .returned (.agg #[.int .i64 z.kind, .int .i64 z.int, .string z.str, .int .i64 z.ref]) ∧ Chg (fun _ => False) W w') (hk : y.kind = 3 ∨ y.kind = 4) (hz : z.kind = y.kind) (hi : -9223372036854775808 ≤ z.int ∧ z.int ≤ 9223372036854775807) (HT : Tabs w) :
    Calls Tryd.prog 18 #[.agg #[.int .i64 x.kind, .int .i64 x.int, .string x.str, .int .i64 x.ref]] w fun e w' => e = .returned (.tuple #[.string (showM z), .bool true]) ∧ Chg (fun _ => False) w w' := by
  have HNN := Lib.hid HN
  have HKB := Lib.hid (alloc_block w (.cells #[.int .i64 x.kind, .int .i64 x.int, .string x.str, .int .i64 x.ref] 36))
  have HCA := Lib.hid (Chg.alloc (fun _ => False) w (.cells #[.int .i64 x.kind, .int .i64 x.int, .string x.str, .int .i64 x.ref] 36))
  clear HN
  have HSW := Lib.hid (fun W (hc : Chg (fun _ => False) w W) => show_in W y z (fun W2 hc2 => HN2 W2 (hc.trans' hc2)) (by rw [hz]; exact hk) hi (HT.still hc))
  clear hi HT HN2 hz
  generalize showM z = s at *
  go_enter Tryd.func18, Tryd.ntmps18
  go_upto_region 1 with fail
  generalize w.alloc (.cells #[.int .i64 x.kind, .int .i64 x.int, .string x.str, .int .i64 x.ref] 36) = w1 at *
  generalize hb1 : w.heap.size = b1 at *
  have HB1 := Lib.hid hb1
  clear hb1
  have k0 := cell_of_block (i := 0) HKB.out rfl
  have k1 := cell_of_block (i := 1) HKB.out rfl
  have k2 := cell_of_block (i := 2) HKB.out rfl
  have k3 := cell_of_block (i := 3) HKB.out rfl
  simp only [List.getElem_toArray, List.getElem_cons_zero, List.getElem_cons_succ] at k0 k1 k2 k3
  go_upto_region 2 with (go_at_call 37; refine (HNN.out _ HCA.out).mono ?_; rintro e wn ⟨rfl, hcn⟩; have hbn := hcn.keep HKB.out (fun x => x); obtain ⟨z10, q0, z11, q1, z12, q2, z13, q3, hbf, hcs⟩ := store4 hbn (.int .i64 y.kind) (.int .i64 y.int) (.string y.str) (.int .i64 y.ref))
  have HC4 := Lib.hid (show Chg (fun _ => False) w (((((wn.setCell ⟨b1, 0, none⟩ (.int .i64 y.kind)).setCell ⟨b1, 1, none⟩ (.int .i64 y.int)).setCell ⟨b1, 2, none⟩ (.string y.str)).setCell ⟨b1, 3, none⟩ (.int .i64 y.ref))) from (HCA.out.trans' hcn).trans hcs (fun _ _ x => x) (fun k hk e => by have := HB1.out; omega))
  clear hcs hcn hbn z10 q0 z11 q1 z12 q2 z13 q3 k0 k1 k2 k3
  generalize ((((wn.setCell ⟨b1, 0, none⟩ (.int .i64 y.kind)).setCell ⟨b1, 1, none⟩ (.int .i64 y.int)).setCell ⟨b1, 2, none⟩ (.string y.str)).setCell ⟨b1, 3, none⟩ (.int .i64 y.ref)) = w4 at *
  have n0 := cell_of_block (i := 0) hbf rfl
  have n1 := cell_of_block (i := 1) hbf rfl
  have n2 := cell_of_block (i := 2) hbf rfl
  have n3 := cell_of_block (i := 3) hbf rfl
  simp only [List.getElem_toArray, List.getElem_cons_zero, List.getElem_cons_succ] at n0 n1 n2 n3
  clear hbf HKB HCA HNN HB1
  have HS := Lib.hid (HSW.out w4 HC4.out)
  clear HSW
  rcases hk with hk | hk
  · rw [hk] at n0 HS
    clear hk
    go_wp2_with (go_at_call 38; refine HS.out.mono ?_; rintro e w5 ⟨rfl, hc5⟩)
    go_ret2
    exact ⟨rfl, HC4.out.trans' hc5⟩
  · rw [hk] at n0 HS
    clear hk
    go_wp2_with (go_at_call 38; refine HS.out.mono ?_; rintro e w5 ⟨rfl, hc5⟩)
    go_ret2
    exact ⟨rfl, HC4.out.trans' hc5⟩
set_option maxHeartbeats 3200000 in
set_option maxRecDepth 100000 in
theorem rshow_in (w : World) (x y : Val) (HN : ∀ W, Chg (fun _ => False) w W → Calls Tryd.prog 19 #[.agg #[.int .i64 x.kind, .int .i64 x.int, .string x.str, .int .i64 x.ref]] W fun e w' => e = .returned (.agg #[.int .i64 y.kind, .int .i64 y.int, .string y.str, .int .i64 y.ref]) ∧ Chg (fun _ => False) W w') (hk : y.kind = 3 ∨ y.kind = 4) (hi : -9223372036854775808 ≤ y.int ∧ y.int ≤ 9223372036854775807) :
    Calls Tryd.prog 20 #[.agg #[.int .i64 x.kind, .int .i64 x.int, .string x.str, .int .i64 x.ref]] w fun e w' => e = .returned (.tuple #[.string (showM y), .int .i64 0]) ∧ Chg (fun _ => False) w w' := by
  have HNN := Lib.hid HN
  have HKB := Lib.hid (alloc_block w (.cells #[.int .i64 x.kind, .int .i64 x.int, .string x.str, .int .i64 x.ref] 36))
  have HCA := Lib.hid (Chg.alloc (fun _ => False) w (.cells #[.int .i64 x.kind, .int .i64 x.int, .string x.str, .int .i64 x.ref] 36))
  clear HN
  have HI := Lib.hid hi
  have hsh : (y.kind = 3 → showM y = itoaB y.int) ∧ (y.kind = 4 → showM y = y.str) := ⟨fun h => if_pos h, fun h => if_neg (by rw [h]; decide)⟩
  have HSH := Lib.hid hsh
  clear hi hsh
  rcases hk with hk | hk
  · rw [HSH.out.1 hk]
    have HK := Lib.hid hk
    clear HSH hk
    go_enter Tryd.func20, Tryd.ntmps20
    go_upto_region 1 with fail
    generalize w.alloc (.cells #[.int .i64 x.kind, .int .i64 x.int, .string x.str, .int .i64 x.ref] 36) = w1 at *
    generalize hb1 : w.heap.size = b1 at *
    have HB1 := Lib.hid hb1
    clear hb1
    have k0 := cell_of_block (i := 0) HKB.out rfl
    have k1 := cell_of_block (i := 1) HKB.out rfl
    have k2 := cell_of_block (i := 2) HKB.out rfl
    have k3 := cell_of_block (i := 3) HKB.out rfl
    simp only [List.getElem_toArray, List.getElem_cons_zero, List.getElem_cons_succ] at k0 k1 k2 k3
    go_upto_region 2 with (go_at_call 19; refine (HNN.out _ HCA.out).mono ?_; rintro e wn ⟨rfl, hcn⟩; have hbn := hcn.keep HKB.out (fun x => x); obtain ⟨z10, q0, z11, q1, z12, q2, z13, q3, hbf, hcs⟩ := store4 hbn (.int .i64 y.kind) (.int .i64 y.int) (.string y.str) (.int .i64 y.ref))
    have HC4 := Lib.hid (show Chg (fun _ => False) w (((((wn.setCell ⟨b1, 0, none⟩ (.int .i64 y.kind)).setCell ⟨b1, 1, none⟩ (.int .i64 y.int)).setCell ⟨b1, 2, none⟩ (.string y.str)).setCell ⟨b1, 3, none⟩ (.int .i64 y.ref))) from (HCA.out.trans' hcn).trans hcs (fun _ _ x => x) (fun k hk e => by have := HB1.out; omega))
    clear hcs hcn hbn z10 q0 z11 q1 z12 q2 z13 q3 k0 k1 k2 k3
    generalize ((((wn.setCell ⟨b1, 0, none⟩ (.int .i64 y.kind)).setCell ⟨b1, 1, none⟩ (.int .i64 y.int)).setCell ⟨b1, 2, none⟩ (.string y.str)).setCell ⟨b1, 3, none⟩ (.int .i64 y.ref)) = w4 at *
    have n0 := cell_of_block (i := 0) hbf rfl
    have n1 := cell_of_block (i := 1) hbf rfl
    have n2 := cell_of_block (i := 2) hbf rfl
    have n3 := cell_of_block (i := 3) hbf rfl
    simp only [List.getElem_toArray, List.getElem_cons_zero, List.getElem_cons_succ] at n0 n1 n2 n3
    clear hbf HKB HCA HNN HB1
    rw [HK.out] at n0
    clear HK
    have HF := Lib.hid (digits_any y.int w4 HI.out)
    go_wp2_with (go_at_call 40; refine HF.out.mono ?_; rintro e w5 ⟨rfl, rfl⟩)
    go_ret2
    exact ⟨rfl, HC4.out⟩
  · rw [HSH.out.2 hk]
    have HK := Lib.hid hk
    clear HSH hk
    go_enter Tryd.func20, Tryd.ntmps20
    go_upto_region 1 with fail
    generalize w.alloc (.cells #[.int .i64 x.kind, .int .i64 x.int, .string x.str, .int .i64 x.ref] 36) = w1 at *
    generalize hb1 : w.heap.size = b1 at *
    have HB1 := Lib.hid hb1
    clear hb1
    have k0 := cell_of_block (i := 0) HKB.out rfl
    have k1 := cell_of_block (i := 1) HKB.out rfl
    have k2 := cell_of_block (i := 2) HKB.out rfl
    have k3 := cell_of_block (i := 3) HKB.out rfl
    simp only [List.getElem_toArray, List.getElem_cons_zero, List.getElem_cons_succ] at k0 k1 k2 k3
    go_upto_region 2 with (go_at_call 19; refine (HNN.out _ HCA.out).mono ?_; rintro e wn ⟨rfl, hcn⟩; have hbn := hcn.keep HKB.out (fun x => x); obtain ⟨z10, q0, z11, q1, z12, q2, z13, q3, hbf, hcs⟩ := store4 hbn (.int .i64 y.kind) (.int .i64 y.int) (.string y.str) (.int .i64 y.ref))
    have HC4 := Lib.hid (show Chg (fun _ => False) w (((((wn.setCell ⟨b1, 0, none⟩ (.int .i64 y.kind)).setCell ⟨b1, 1, none⟩ (.int .i64 y.int)).setCell ⟨b1, 2, none⟩ (.string y.str)).setCell ⟨b1, 3, none⟩ (.int .i64 y.ref))) from (HCA.out.trans' hcn).trans hcs (fun _ _ x => x) (fun k hk e => by have := HB1.out; omega))
    clear hcs hcn hbn z10 q0 z11 q1 z12 q2 z13 q3 k0 k1 k2 k3
    generalize ((((wn.setCell ⟨b1, 0, none⟩ (.int .i64 y.kind)).setCell ⟨b1, 1, none⟩ (.int .i64 y.int)).setCell ⟨b1, 2, none⟩ (.string y.str)).setCell ⟨b1, 3, none⟩ (.int .i64 y.ref)) = w4 at *
    have n0 := cell_of_block (i := 0) hbf rfl
    have n1 := cell_of_block (i := 1) hbf rfl
    have n2 := cell_of_block (i := 2) hbf rfl
    have n3 := cell_of_block (i := 3) hbf rfl
    simp only [List.getElem_toArray, List.getElem_cons_zero, List.getElem_cons_succ] at n0 n1 n2 n3
    clear hbf HKB HCA HNN HB1
    rw [HK.out] at n0
    clear HK
    go_wp2_with fail
    go_ret2
    exact ⟨rfl, HC4.out⟩
set_option maxHeartbeats 3200000 in
set_option maxRecDepth 100000 in
theorem rshow_out (w : World) (x y : Val) (HN : ∀ W, Chg (fun _ => False) w W → Calls Tryd.prog 19 #[.agg #[.int .i64 x.kind, .int .i64 x.int, .string x.str, .int .i64 x.ref]] W fun e w' => e = .returned (.agg #[.int .i64 y.kind, .int .i64 y.int, .string y.str, .int .i64 y.ref]) ∧ Chg (fun _ => False) W w') (hk : y.kind = 0 ∨ y.kind = 1 ∨ y.kind = 2 ∨ y.kind = 5 ∨ y.kind = 6) :
    Calls Tryd.prog 20 #[.agg #[.int .i64 x.kind, .int .i64 x.int, .string x.str, .int .i64 x.ref]] w fun e w' => ∃ t q, e = .returned (.tuple #[.string t, .int .i64 q]) ∧ Chg (fun _ => False) w w' := by
  have HNN := Lib.hid HN
  have HKB := Lib.hid (alloc_block w (.cells #[.int .i64 x.kind, .int .i64 x.int, .string x.str, .int .i64 x.ref] 36))
  have HCA := Lib.hid (Chg.alloc (fun _ => False) w (.cells #[.int .i64 x.kind, .int .i64 x.int, .string x.str, .int .i64 x.ref] 36))
  clear HN
  rcases hk with hk | hk | hk | hk | hk
  · skip
    have HK := Lib.hid hk
    clear hk
    go_enter Tryd.func20, Tryd.ntmps20
    go_upto_region 1 with fail
    generalize w.alloc (.cells #[.int .i64 x.kind, .int .i64 x.int, .string x.str, .int .i64 x.ref] 36) = w1 at *
    generalize hb1 : w.heap.size = b1 at *
    have HB1 := Lib.hid hb1
    clear hb1
    have k0 := cell_of_block (i := 0) HKB.out rfl
    have k1 := cell_of_block (i := 1) HKB.out rfl
    have k2 := cell_of_block (i := 2) HKB.out rfl
    have k3 := cell_of_block (i := 3) HKB.out rfl
    simp only [List.getElem_toArray, List.getElem_cons_zero, List.getElem_cons_succ] at k0 k1 k2 k3
    go_upto_region 2 with (go_at_call 19; refine (HNN.out _ HCA.out).mono ?_; rintro e wn ⟨rfl, hcn⟩; have hbn := hcn.keep HKB.out (fun x => x); obtain ⟨z10, q0, z11, q1, z12, q2, z13, q3, hbf, hcs⟩ := store4 hbn (.int .i64 y.kind) (.int .i64 y.int) (.string y.str) (.int .i64 y.ref))
    have HC4 := Lib.hid (show Chg (fun _ => False) w (((((wn.setCell ⟨b1, 0, none⟩ (.int .i64 y.kind)).setCell ⟨b1, 1, none⟩ (.int .i64 y.int)).setCell ⟨b1, 2, none⟩ (.string y.str)).setCell ⟨b1, 3, none⟩ (.int .i64 y.ref))) from (HCA.out.trans' hcn).trans hcs (fun _ _ x => x) (fun k hk e => by have := HB1.out; omega))
    clear hcs hcn hbn z10 q0 z11 q1 z12 q2 z13 q3 k0 k1 k2 k3
    generalize ((((wn.setCell ⟨b1, 0, none⟩ (.int .i64 y.kind)).setCell ⟨b1, 1, none⟩ (.int .i64 y.int)).setCell ⟨b1, 2, none⟩ (.string y.str)).setCell ⟨b1, 3, none⟩ (.int .i64 y.ref)) = w4 at *
    have n0 := cell_of_block (i := 0) hbf rfl
    have n1 := cell_of_block (i := 1) hbf rfl
    have n2 := cell_of_block (i := 2) hbf rfl
    have n3 := cell_of_block (i := 3) hbf rfl
    simp only [List.getElem_toArray, List.getElem_cons_zero, List.getElem_cons_succ] at n0 n1 n2 n3
    clear hbf HKB HCA HNN HB1
    rw [HK.out] at n0
    clear HK
    go_wp2_with fail
    go_ret2
    exact ⟨_, _, rfl, HC4.out⟩
  · skip
    have HK := Lib.hid hk
    clear hk
    go_enter Tryd.func20, Tryd.ntmps20
    go_upto_region 1 with fail
    generalize w.alloc (.cells #[.int .i64 x.kind, .int .i64 x.int, .string x.str, .int .i64 x.ref] 36) = w1 at *
    generalize hb1 : w.heap.size = b1 at *
    have HB1 := Lib.hid hb1
    clear hb1
    have k0 := cell_of_block (i := 0) HKB.out rfl
    have k1 := cell_of_block (i := 1) HKB.out rfl
    have k2 := cell_of_block (i := 2) HKB.out rfl
    have k3 := cell_of_block (i := 3) HKB.out rfl
    simp only [List.getElem_toArray, List.getElem_cons_zero, List.getElem_cons_succ] at k0 k1 k2 k3
    go_upto_region 2 with (go_at_call 19; refine (HNN.out _ HCA.out).mono ?_; rintro e wn ⟨rfl, hcn⟩; have hbn := hcn.keep HKB.out (fun x => x); obtain ⟨z10, q0, z11, q1, z12, q2, z13, q3, hbf, hcs⟩ := store4 hbn (.int .i64 y.kind) (.int .i64 y.int) (.string y.str) (.int .i64 y.ref))
    have HC4 := Lib.hid (show Chg (fun _ => False) w (((((wn.setCell ⟨b1, 0, none⟩ (.int .i64 y.kind)).setCell ⟨b1, 1, none⟩ (.int .i64 y.int)).setCell ⟨b1, 2, none⟩ (.string y.str)).setCell ⟨b1, 3, none⟩ (.int .i64 y.ref))) from (HCA.out.trans' hcn).trans hcs (fun _ _ x => x) (fun k hk e => by have := HB1.out; omega))
    clear hcs hcn hbn z10 q0 z11 q1 z12 q2 z13 q3 k0 k1 k2 k3
    generalize ((((wn.setCell ⟨b1, 0, none⟩ (.int .i64 y.kind)).setCell ⟨b1, 1, none⟩ (.int .i64 y.int)).setCell ⟨b1, 2, none⟩ (.string y.str)).setCell ⟨b1, 3, none⟩ (.int .i64 y.ref)) = w4 at *
    have n0 := cell_of_block (i := 0) hbf rfl
    have n1 := cell_of_block (i := 1) hbf rfl
    have n2 := cell_of_block (i := 2) hbf rfl
    have n3 := cell_of_block (i := 3) hbf rfl
    simp only [List.getElem_toArray, List.getElem_cons_zero, List.getElem_cons_succ] at n0 n1 n2 n3
    clear hbf HKB HCA HNN HB1
    rw [HK.out] at n0
    clear HK
    go_wp2_with fail
    go_ret2
    exact ⟨_, _, rfl, HC4.out⟩
  · by_cases hi : y.int = 1
    · have zi : (y.int == 1) = true := by simpa using hi
      clear hi
      have HK := Lib.hid hk
      clear hk
      go_enter Tryd.func20, Tryd.ntmps20
      go_upto_region 1 with fail
      generalize w.alloc (.cells #[.int .i64 x.kind, .int .i64 x.int, .string x.str, .int .i64 x.ref] 36) = w1 at *
      generalize hb1 : w.heap.size = b1 at *
      have HB1 := Lib.hid hb1
      clear hb1
      have k0 := cell_of_block (i := 0) HKB.out rfl
      have k1 := cell_of_block (i := 1) HKB.out rfl
      have k2 := cell_of_block (i := 2) HKB.out rfl
      have k3 := cell_of_block (i := 3) HKB.out rfl
      simp only [List.getElem_toArray, List.getElem_cons_zero, List.getElem_cons_succ] at k0 k1 k2 k3
      go_upto_region 2 with (go_at_call 19; refine (HNN.out _ HCA.out).mono ?_; rintro e wn ⟨rfl, hcn⟩; have hbn := hcn.keep HKB.out (fun x => x); obtain ⟨z10, q0, z11, q1, z12, q2, z13, q3, hbf, hcs⟩ := store4 hbn (.int .i64 y.kind) (.int .i64 y.int) (.string y.str) (.int .i64 y.ref))
      have HC4 := Lib.hid (show Chg (fun _ => False) w (((((wn.setCell ⟨b1, 0, none⟩ (.int .i64 y.kind)).setCell ⟨b1, 1, none⟩ (.int .i64 y.int)).setCell ⟨b1, 2, none⟩ (.string y.str)).setCell ⟨b1, 3, none⟩ (.int .i64 y.ref))) from (HCA.out.trans' hcn).trans hcs (fun _ _ x => x) (fun k hk e => by have := HB1.out; omega))
      clear hcs hcn hbn z10 q0 z11 q1 z12 q2 z13 q3 k0 k1 k2 k3
      generalize ((((wn.setCell ⟨b1, 0, none⟩ (.int .i64 y.kind)).setCell ⟨b1, 1, none⟩ (.int .i64 y.int)).setCell ⟨b1, 2, none⟩ (.string y.str)).setCell ⟨b1, 3, none⟩ (.int .i64 y.ref)) = w4 at *
      have n0 := cell_of_block (i := 0) hbf rfl
      have n1 := cell_of_block (i := 1) hbf rfl
      have n2 := cell_of_block (i := 2) hbf rfl
      have n3 := cell_of_block (i := 3) hbf rfl
      simp only [List.getElem_toArray, List.getElem_cons_zero, List.getElem_cons_succ] at n0 n1 n2 n3
      clear hbf HKB HCA HNN HB1
      rw [HK.out] at n0
      clear HK
      go_wp2_with fail
      go_ret2
      exact ⟨_, _, rfl, HC4.out⟩

    · have zi : (y.int == 1) = false := beq_false_of_ne hi
      clear hi
      have HK := Lib.hid hk
      clear hk
      go_enter Tryd.func20, Tryd.ntmps20
      go_upto_region 1 with fail
      generalize w.alloc (.cells #[.int .i64 x.kind, .int .i64 x.int, .string x.str, .int .i64 x.ref] 36) = w1 at *
      generalize hb1 : w.heap.size = b1 at *
      have HB1 := Lib.hid hb1
      clear hb1
      have k0 := cell_of_block (i := 0) HKB.out rfl
      have k1 := cell_of_block (i := 1) HKB.out rfl
      have k2 := cell_of_block (i := 2) HKB.out rfl
      have k3 := cell_of_block (i := 3) HKB.out rfl
      simp only [List.getElem_toArray, List.getElem_cons_zero, List.getElem_cons_succ] at k0 k1 k2 k3
      go_upto_region 2 with (go_at_call 19; refine (HNN.out _ HCA.out).mono ?_; rintro e wn ⟨rfl, hcn⟩; have hbn := hcn.keep HKB.out (fun x => x); obtain ⟨z10, q0, z11, q1, z12, q2, z13, q3, hbf, hcs⟩ := store4 hbn (.int .i64 y.kind) (.int .i64 y.int) (.string y.str) (.int .i64 y.ref))
      have HC4 := Lib.hid (show Chg (fun _ => False) w (((((wn.setCell ⟨b1, 0, none⟩ (.int .i64 y.kind)).setCell ⟨b1, 1, none⟩ (.int .i64 y.int)).setCell ⟨b1, 2, none⟩ (.string y.str)).setCell ⟨b1, 3, none⟩ (.int .i64 y.ref))) from (HCA.out.trans' hcn).trans hcs (fun _ _ x => x) (fun k hk e => by have := HB1.out; omega))
      clear hcs hcn hbn z10 q0 z11 q1 z12 q2 z13 q3 k0 k1 k2 k3
      generalize ((((wn.setCell ⟨b1, 0, none⟩ (.int .i64 y.kind)).setCell ⟨b1, 1, none⟩ (.int .i64 y.int)).setCell ⟨b1, 2, none⟩ (.string y.str)).setCell ⟨b1, 3, none⟩ (.int .i64 y.ref)) = w4 at *
      have n0 := cell_of_block (i := 0) hbf rfl
      have n1 := cell_of_block (i := 1) hbf rfl
      have n2 := cell_of_block (i := 2) hbf rfl
      have n3 := cell_of_block (i := 3) hbf rfl
      simp only [List.getElem_toArray, List.getElem_cons_zero, List.getElem_cons_succ] at n0 n1 n2 n3
      clear hbf HKB HCA HNN HB1
      rw [HK.out] at n0
      clear HK
      go_wp2_with fail
      go_ret2
      exact ⟨_, _, rfl, HC4.out⟩

  · skip
    have HK := Lib.hid hk
    clear hk
    go_enter Tryd.func20, Tryd.ntmps20
    go_upto_region 1 with fail
    generalize w.alloc (.cells #[.int .i64 x.kind, .int .i64 x.int, .string x.str, .int .i64 x.ref] 36) = w1 at *
    generalize hb1 : w.heap.size = b1 at *
    have HB1 := Lib.hid hb1
    clear hb1
    have k0 := cell_of_block (i := 0) HKB.out rfl
    have k1 := cell_of_block (i := 1) HKB.out rfl
    have k2 := cell_of_block (i := 2) HKB.out rfl
    have k3 := cell_of_block (i := 3) HKB.out rfl
    simp only [List.getElem_toArray, List.getElem_cons_zero, List.getElem_cons_succ] at k0 k1 k2 k3
    go_upto_region 2 with (go_at_call 19; refine (HNN.out _ HCA.out).mono ?_; rintro e wn ⟨rfl, hcn⟩; have hbn := hcn.keep HKB.out (fun x => x); obtain ⟨z10, q0, z11, q1, z12, q2, z13, q3, hbf, hcs⟩ := store4 hbn (.int .i64 y.kind) (.int .i64 y.int) (.string y.str) (.int .i64 y.ref))
    have HC4 := Lib.hid (show Chg (fun _ => False) w (((((wn.setCell ⟨b1, 0, none⟩ (.int .i64 y.kind)).setCell ⟨b1, 1, none⟩ (.int .i64 y.int)).setCell ⟨b1, 2, none⟩ (.string y.str)).setCell ⟨b1, 3, none⟩ (.int .i64 y.ref))) from (HCA.out.trans' hcn).trans hcs (fun _ _ x => x) (fun k hk e => by have := HB1.out; omega))
    clear hcs hcn hbn z10 q0 z11 q1 z12 q2 z13 q3 k0 k1 k2 k3
    generalize ((((wn.setCell ⟨b1, 0, none⟩ (.int .i64 y.kind)).setCell ⟨b1, 1, none⟩ (.int .i64 y.int)).setCell ⟨b1, 2, none⟩ (.string y.str)).setCell ⟨b1, 3, none⟩ (.int .i64 y.ref)) = w4 at *
    have n0 := cell_of_block (i := 0) hbf rfl
    have n1 := cell_of_block (i := 1) hbf rfl
    have n2 := cell_of_block (i := 2) hbf rfl
    have n3 := cell_of_block (i := 3) hbf rfl
    simp only [List.getElem_toArray, List.getElem_cons_zero, List.getElem_cons_succ] at n0 n1 n2 n3
    clear hbf HKB HCA HNN HB1
    rw [HK.out] at n0
    clear HK
    go_wp2_with fail
    go_ret2
    exact ⟨_, _, rfl, HC4.out⟩
  · skip
    have HK := Lib.hid hk
    clear hk
    go_enter Tryd.func20, Tryd.ntmps20
    go_upto_region 1 with fail
    generalize w.alloc (.cells #[.int .i64 x.kind, .int .i64 x.int, .string x.str, .int .i64 x.ref] 36) = w1 at *
    generalize hb1 : w.heap.size = b1 at *
    have HB1 := Lib.hid hb1
    clear hb1
    have k0 := cell_of_block (i := 0) HKB.out rfl
    have k1 := cell_of_block (i := 1) HKB.out rfl
    have k2 := cell_of_block (i := 2) HKB.out rfl
    have k3 := cell_of_block (i := 3) HKB.out rfl
    simp only [List.getElem_toArray, List.getElem_cons_zero, List.getElem_cons_succ] at k0 k1 k2 k3
    go_upto_region 2 with (go_at_call 19; refine (HNN.out _ HCA.out).mono ?_; rintro e wn ⟨rfl, hcn⟩; have hbn := hcn.keep HKB.out (fun x => x); obtain ⟨z10, q0, z11, q1, z12, q2, z13, q3, hbf, hcs⟩ := store4 hbn (.int .i64 y.kind) (.int .i64 y.int) (.string y.str) (.int .i64 y.ref))
    have HC4 := Lib.hid (show Chg (fun _ => False) w (((((wn.setCell ⟨b1, 0, none⟩ (.int .i64 y.kind)).setCell ⟨b1, 1, none⟩ (.int .i64 y.int)).setCell ⟨b1, 2, none⟩ (.string y.str)).setCell ⟨b1, 3, none⟩ (.int .i64 y.ref))) from (HCA.out.trans' hcn).trans hcs (fun _ _ x => x) (fun k hk e => by have := HB1.out; omega))
    clear hcs hcn hbn z10 q0 z11 q1 z12 q2 z13 q3 k0 k1 k2 k3
    generalize ((((wn.setCell ⟨b1, 0, none⟩ (.int .i64 y.kind)).setCell ⟨b1, 1, none⟩ (.int .i64 y.int)).setCell ⟨b1, 2, none⟩ (.string y.str)).setCell ⟨b1, 3, none⟩ (.int .i64 y.ref)) = w4 at *
    have n0 := cell_of_block (i := 0) hbf rfl
    have n1 := cell_of_block (i := 1) hbf rfl
    have n2 := cell_of_block (i := 2) hbf rfl
    have n3 := cell_of_block (i := 3) hbf rfl
    simp only [List.getElem_toArray, List.getElem_cons_zero, List.getElem_cons_succ] at n0 n1 n2 n3
    clear hbf HKB HCA HNN HB1
    rw [HK.out] at n0
    clear HK
    go_wp2_with fail
    go_ret2
    exact ⟨_, _, rfl, HC4.out⟩
end Go.Proofs.YtjianickjahdnaaDoor
namespace Go.Proofs.YtjianickjahdnaaDoor
open Go.RowKit Go.ChangeShapes
set_option linter.unusedVariables false
set_option linter.unusedSimpArgs false

theorem utf8_still {w w' : World} (h : Lib.Utf8Tabs 0 1 w) (hc : Chg (fun _ => False) w w') : Lib.Utf8Tabs 0 1 w' := ⟨fun c hk => hc.cell (h.1 c hk), fun i hi => ⟨hc.cell (h.2 i hi).1, hc.cell (h.2 i hi).2⟩⟩
theorem first_eq : (Rows.laid_unicode_utf8_first : DataW Unit) = Lib.firstData := (show (Rows.laid_unicode_utf8_first : DataW Unit) = Pinned.utf8First from rfl).trans Pinned.utf8First_eq
theorem accept_eq : (Rows.laid_unicode_utf8_acceptRanges : DataW Unit) = Lib.acceptData := by kernel_rfl
set_option maxRecDepth 100000 in
theorem utf8_of_laid {W : World} (h : laidMetH Tryd.prog Rows.heapBeginsRow.laid W) : Lib.Utf8Tabs 0 1 W := by
  rw [MakeChecks.laidMetH_plain _ _ _ (by kernel_rfl)] at h
  have r3 := Lib.laidMet.reads h (n := "unicode/utf8.first") (d := Rows.laid_unicode_utf8_first) (.tail _ (.tail _ (.tail _ (.tail _ (.tail _ (.tail _ (.head _)))))))
  have r4 := Lib.laidMet.reads h (n := "unicode/utf8.acceptRanges") (d := Rows.laid_unicode_utf8_acceptRanges) (.tail _ (.tail _ (.tail _ (.head _))))
  rw [first_eq] at r3
  rw [accept_eq] at r4
  exact utf8Tabs_of_readsT (U8Types.of196 sh_lays196) ⟨by kernel_rfl, by kernel_rfl, by kernel_rfl, by kernel_rfl, by kernel_rfl, by kernel_rfl, by kernel_rfl⟩ r3 r4
end Go.Proofs.YtjianickjahdnaaDoor
namespace Go.Proofs.YtjianickjahdnaaDoor
open Go.RowKit
set_option linter.unusedVariables false
set_option linter.unusedSimpArgs false

set_option maxHeartbeats 6400000 in
set_option maxRecDepth 100000 in
theorem heapKeys_long (x : Val) (s : ByteArray) (w : World) (HT : Tabs w) (hl : 60 < x.str.size) :
    Calls Tryd.prog 5 #[.agg #[.int .i64 x.kind, .int .i64 x.int, .string x.str, .int .i64 x.ref], .string s] w fun e w' => e = .returned (.bool true) ∧ Below w.heap.size w w' := by
  have HAW := Lib.hid (fun W (hc : Chg (fun _ => False) w W) => awake_heap W (HT.still hc))
  have HC1 := Lib.hid (Chg.alloc (fun _ => False) w (.cells #[.int .i64 x.kind, .int .i64 x.int, .string x.str, .int .i64 x.ref] 36))
  have hkb := alloc_block w (.cells #[.int .i64 x.kind, .int .i64 x.int, .string x.str, .int .i64 x.ref] 36)
  have HBX : Hid (∀ W, Chg (fun _ => False) (w.alloc (.cells #[.int .i64 x.kind, .int .i64 x.int, .string x.str, .int .i64 x.ref] 36)) W → W.heap[w.heap.size]? = some (.cells #[.int .i64 x.kind, .int .i64 x.int, .string x.str, .int .i64 x.ref] 36 (0, 0))) := Lib.hid (fun W hc => hc.keep hkb (fun x => x))
  clear hkb
  have l1 : (60 : Int) < (x.str.size : Int) := by omega
  clear hl
  clear HT
  have HCR := Lib.hid (Chg.refl (fun _ => False) (w.alloc (.cells #[.int .i64 x.kind, .int .i64 x.int, .string x.str, .int .i64 x.ref] 36)))
  go_enter Tryd.func5, Tryd.ntmps5
  go_upto_region 1 with fail
  generalize w.alloc (.cells #[.int .i64 x.kind, .int .i64 x.int, .string x.str, .int .i64 x.ref] 36) = w1 at *
  generalize hb2 : w.heap.size = b2 at HBX ⊢
  clear hb2
  go_upto_region 2 with (go_at_call 9; refine (HAW.out _ HC1.out).mono ?_; rintro e wa ⟨rfl, hca⟩; have HCA := Lib.hid (HC1.out.trans' hca); have q0 := cell_of_block (i := 0) (HBX.out _ hca) rfl; have q1 := cell_of_block (i := 1) (HBX.out _ hca) rfl; have q2 := cell_of_block (i := 2) (HBX.out _ hca) rfl; have q3 := cell_of_block (i := 3) (HBX.out _ hca) rfl; simp only [List.getElem_toArray, List.getElem_cons_zero, List.getElem_cons_succ] at q0 q1 q2 q3)
  go_wp2_with (go_at_call 9; refine (HAW.out _ HCA.out).mono ?_; rintro e wb ⟨rfl, hcb⟩)
  have HCB := Lib.hid (HCA.out.trans' hcb)
  go_ret
  exact ⟨rfl, HCB.out.below (Nat.le_refl _) (fun _ x => x.elim)⟩
set_option maxHeartbeats 6400000 in
set_option maxRecDepth 100000 in
theorem heapKeys_text (x : Val) (s : ByteArray) (w : World) (HT : Tabs w) (hl : ¬ 60 < x.str.size) (hs : 60 < s.size) :
    Calls Tryd.prog 5 #[.agg #[.int .i64 x.kind, .int .i64 x.int, .string x.str, .int .i64 x.ref], .string s] w fun e w' => e = .returned (.bool true) ∧ Below w.heap.size w w' := by
  have HAW := Lib.hid (fun W (hc : Chg (fun _ => False) w W) => awake_heap W (HT.still hc))
  have HC1 := Lib.hid (Chg.alloc (fun _ => False) w (.cells #[.int .i64 x.kind, .int .i64 x.int, .string x.str, .int .i64 x.ref] 36))
  have hkb := alloc_block w (.cells #[.int .i64 x.kind, .int .i64 x.int, .string x.str, .int .i64 x.ref] 36)
  have HBX : Hid (∀ W, Chg (fun _ => False) (w.alloc (.cells #[.int .i64 x.kind, .int .i64 x.int, .string x.str, .int .i64 x.ref] 36)) W → W.heap[w.heap.size]? = some (.cells #[.int .i64 x.kind, .int .i64 x.int, .string x.str, .int .i64 x.ref] 36 (0, 0))) := Lib.hid (fun W hc => hc.keep hkb (fun x => x))
  clear hkb
  have l1 : ¬ (60 : Int) < (x.str.size : Int) := by omega
  have l2 : (60 : Int) < (s.size : Int) := by omega
  clear hl hs
  clear HT
  have HCR := Lib.hid (Chg.refl (fun _ => False) (w.alloc (.cells #[.int .i64 x.kind, .int .i64 x.int, .string x.str, .int .i64 x.ref] 36)))
  go_enter Tryd.func5, Tryd.ntmps5
  go_upto_region 1 with fail
  generalize w.alloc (.cells #[.int .i64 x.kind, .int .i64 x.int, .string x.str, .int .i64 x.ref] 36) = w1 at *
  generalize hb2 : w.heap.size = b2 at HBX ⊢
  clear hb2
  go_upto_region 2 with (go_at_call 9; refine (HAW.out _ HC1.out).mono ?_; rintro e wa ⟨rfl, hca⟩; have HCA := Lib.hid (HC1.out.trans' hca); have q0 := cell_of_block (i := 0) (HBX.out _ hca) rfl; have q1 := cell_of_block (i := 1) (HBX.out _ hca) rfl; have q2 := cell_of_block (i := 2) (HBX.out _ hca) rfl; have q3 := cell_of_block (i := 3) (HBX.out _ hca) rfl; simp only [List.getElem_toArray, List.getElem_cons_zero, List.getElem_cons_succ] at q0 q1 q2 q3)
  go_wp2_with (go_at_call 9; refine (HAW.out _ HCA.out).mono ?_; rintro e wb ⟨rfl, hcb⟩)
  have HCB := Lib.hid (HCA.out.trans' hcb)
  go_ret
  exact ⟨rfl, HCB.out.below (Nat.le_refl _) (fun _ x => x.elim)⟩
set_option maxHeartbeats 6400000 in
set_option maxRecDepth 100000 in
theorem heapKeys_out (x : Val) (s : ByteArray) (w : World) (HT : Tabs w) (HU : Lib.Utf8Tabs 0 1 w) (hi : -9223372036854775808 ≤ x.int ∧ x.int ≤ 9223372036854775807) (hl : ¬ 60 < x.str.size) (hs : ¬ 60 < s.size) (hk : ¬ (normM x).kind = 3 ∧ ¬ (normM x).kind = 4) :
    Calls Tryd.prog 5 #[.agg #[.int .i64 x.kind, .int .i64 x.int, .string x.str, .int .i64 x.ref], .string s] w fun e w' => e = .returned (.bool true) ∧ Below w.heap.size w w' := by
  have HAW := Lib.hid (fun W (hc : Chg (fun _ => False) w W) => awake_heap W (HT.still hc))
  have HC1 := Lib.hid (Chg.alloc (fun _ => False) w (.cells #[.int .i64 x.kind, .int .i64 x.int, .string x.str, .int .i64 x.ref] 36))
  have hkb := alloc_block w (.cells #[.int .i64 x.kind, .int .i64 x.int, .string x.str, .int .i64 x.ref] 36)
  have HBX : Hid (∀ W, Chg (fun _ => False) (w.alloc (.cells #[.int .i64 x.kind, .int .i64 x.int, .string x.str, .int .i64 x.ref] 36)) W → W.heap[w.heap.size]? = some (.cells #[.int .i64 x.kind, .int .i64 x.int, .string x.str, .int .i64 x.ref] 36 (0, 0))) := Lib.hid (fun W hc => hc.keep hkb (fun x => x))
  clear hkb
  have l1 : ¬ (60 : Int) < (x.str.size : Int) := by omega
  have l2 : ¬ (60 : Int) < (s.size : Int) := by omega
  have hy1 := normM_int x hi
  have hy2 := normM_str x 60 (by omega)
  have hz1 := normM_int (normM x) hy1
  have hz2 := normM_str (normM x) 240 (by omega)
  have hzk := normM_same x
  have HN1 := Lib.hid (fun W (hc : Chg (fun _ => False) w W) => normal_any x W (by omega) (utf8_stay HU hc))
  have HN2 := Lib.hid (fun W (hc : Chg (fun _ => False) w W) => normal_any (normM x) W (by omega) (utf8_stay HU hc))
  have HR1 := Lib.hid (fun W (hc : Chg (fun _ => False) w W) => rnormal_any x W (by omega) (utf8_stay HU hc))
  have HR2 := Lib.hid (fun W (hc : Chg (fun _ => False) w W) => rnormal_any (normM x) W (by omega) (utf8_stay HU hc))
  have hkl : (⟨#[]⟩ : ByteArray).size ≤ 1000 := by decide
  have HKY := Lib.hid (fun W (hc : Chg (fun _ => False) w W) => key_out W x (normM x) (fun W2 hc2 => HN1.out W2 (hc.trans' hc2)) hk)
  have HSH := Lib.hid (fun W (hc : Chg (fun _ => False) w W) => rshow_out W (normM x) (normM (normM x)) (fun W2 hc2 => HR2.out W2 (hc.trans' hc2)) (by have := normM_kind (normM x); rw [hzk] at this ⊢; omega))
  have y3 : ((normM x).kind == 3) = false := beq_false_of_ne hk.1
  have y4 : ((normM x).kind == 4) = false := beq_false_of_ne hk.2
  have HP1 := Lib.hid (fun W (hc : Chg (fun _ => False) w W) => position_any s W (by omega) (HT.still hc))
  have HP2 := Lib.hid (fun W (hc : Chg (fun _ => False) w W) => position_any (⟨#[]⟩ : ByteArray) W (by omega) (HT.still hc))
  have HQ1 := Lib.hid (fun W => rposition_any s W (by omega))
  have HQ2 := Lib.hid (fun W => rposition_any (⟨#[]⟩ : ByteArray) W (by omega))
  clear HT HU hi hl hs hy1 hy2 hz1 hz2 hzk HN1 HN2 HR2 hkl
  clear hk
  generalize posM s = p1 at *
  generalize posM ⟨#[]⟩ = p2 at *
  generalize normM (normM x) = z at *
  generalize normM x = y at *
  go_enter Tryd.func5, Tryd.ntmps5
  go_upto_region 1 with fail
  generalize w.alloc (.cells #[.int .i64 x.kind, .int .i64 x.int, .string x.str, .int .i64 x.ref] 36) = w1 at *
  generalize hb2 : w.heap.size = b2 at HBX ⊢
  clear hb2
  go_upto_region 2 with (go_at_call 9; refine (HAW.out _ HC1.out).mono ?_; rintro e wa ⟨rfl, hca⟩; have HCA := Lib.hid (HC1.out.trans' hca); have q0 := cell_of_block (i := 0) (HBX.out _ hca) rfl; have q1 := cell_of_block (i := 1) (HBX.out _ hca) rfl; have q2 := cell_of_block (i := 2) (HBX.out _ hca) rfl; have q3 := cell_of_block (i := 3) (HBX.out _ hca) rfl; simp only [List.getElem_toArray, List.getElem_cons_zero, List.getElem_cons_succ] at q0 q1 q2 q3)
  have HCW := Lib.hid hca
  clear hca
  go_upto_region 4 with (go_at_call 18; refine (HKY.out _ HCA.out).mono ?_; rintro e wk ⟨rfl, hck⟩)
  have HCK := Lib.hid (HCA.out.trans' hck)
  have HCX := Lib.hid (HCW.out.trans' hck)
  clear hck q0 q1 q2 q3 HCW
  have q0 := cell_of_block (i := 0) (HBX.out _ HCX.out) rfl; have q1 := cell_of_block (i := 1) (HBX.out _ HCX.out) rfl; have q2 := cell_of_block (i := 2) (HBX.out _ HCX.out) rfl; have q3 := cell_of_block (i := 3) (HBX.out _ HCX.out) rfl; simp only [List.getElem_toArray, List.getElem_cons_zero, List.getElem_cons_succ] at q0 q1 q2 q3
  go_upto_region 5 with (go_at_call 19; refine (HR1.out _ HCK.out).mono ?_; rintro e wn ⟨rfl, hcn⟩)
  have hb7 := alloc_block wn (.cells #[.int .i64 y.kind, .int .i64 y.int, .string y.str, .int .i64 y.ref] 36)
  have HC7 := Lib.hid ((HCK.out.trans' hcn).allocR (.cells #[.int .i64 y.kind, .int .i64 y.int, .string y.str, .int .i64 y.ref] 36))
  clear hcn q0 q1 q2 q3 HCX
  generalize wn.alloc (.cells #[.int .i64 y.kind, .int .i64 y.int, .string y.str, .int .i64 y.ref] 36) = w7 at *
  generalize wn.heap.size = b7 at *
  have m0 := cell_of_block (i := 0) hb7 rfl; have m1 := cell_of_block (i := 1) hb7 rfl; have m2 := cell_of_block (i := 2) hb7 rfl; have m3 := cell_of_block (i := 3) hb7 rfl; simp only [List.getElem_toArray, List.getElem_cons_zero, List.getElem_cons_succ] at m0 m1 m2 m3
  go_upto_region 6 with (go_at_call 20; refine (HSH.out _ HC7.out).mono ?_; rintro e ws ⟨tt, qq, rfl, hcs⟩)
  have HCS := Lib.hid (HC7.out.trans' hcs)
  have hb8 := hcs.keep hb7 (fun x => x)
  clear m0 m1 m2 m3 hb7
  have m0 := cell_of_block (i := 0) hb8 rfl; have m1 := cell_of_block (i := 1) hb8 rfl; have m2 := cell_of_block (i := 2) hb8 rfl; have m3 := cell_of_block (i := 3) hb8 rfl; simp only [List.getElem_toArray, List.getElem_cons_zero, List.getElem_cons_succ] at m0 m1 m2 m3
  clear hcs hb8
  go_upto_region 9 with fail
  go_wp2_with (first
    | (go_at_call 21; refine (HP1.out _ HCS.out).mono ?_; rintro e wp ⟨rfl, hcp⟩; have HCP := Lib.hid (HCS.out.trans' hcp); clear HP1 hcp)
    | (go_at_call 22; refine (HQ1.out _).mono ?_; rintro e wq ⟨rfl, rfl⟩; clear HQ1)
    | (go_at_call 21; refine (HP2.out _ HCP.out).mono ?_; rintro e wp2 ⟨rfl, hcp2⟩; have HCP2 := Lib.hid (HCP.out.trans' hcp2); clear HP2 hcp2)
    | (go_at_call 22; refine (HQ2.out _).mono ?_; rintro e wq2 ⟨rfl, rfl⟩; clear HQ2))
  go_ret
  exact ⟨rfl, HCP2.out.below (Nat.le_refl _) (fun _ x => x.elim)⟩
set_option maxHeartbeats 6400000 in
set_option maxRecDepth 100000 in
theorem heapKeys_in (x : Val) (s : ByteArray) (w : World) (HT : Tabs w) (HU : Lib.Utf8Tabs 0 1 w) (hi : -9223372036854775808 ≤ x.int ∧ x.int ≤ 9223372036854775807) (hl : ¬ 60 < x.str.size) (hs : ¬ 60 < s.size) (hk : (normM x).kind = 3 ∨ (normM x).kind = 4) :
    Calls Tryd.prog 5 #[.agg #[.int .i64 x.kind, .int .i64 x.int, .string x.str, .int .i64 x.ref], .string s] w fun e w' => e = .returned (.bool true) ∧ Below w.heap.size w w' := by
  have HAW := Lib.hid (fun W (hc : Chg (fun _ => False) w W) => awake_heap W (HT.still hc))
  have HC1 := Lib.hid (Chg.alloc (fun _ => False) w (.cells #[.int .i64 x.kind, .int .i64 x.int, .string x.str, .int .i64 x.ref] 36))
  have hkb := alloc_block w (.cells #[.int .i64 x.kind, .int .i64 x.int, .string x.str, .int .i64 x.ref] 36)
  have HBX : Hid (∀ W, Chg (fun _ => False) (w.alloc (.cells #[.int .i64 x.kind, .int .i64 x.int, .string x.str, .int .i64 x.ref] 36)) W → W.heap[w.heap.size]? = some (.cells #[.int .i64 x.kind, .int .i64 x.int, .string x.str, .int .i64 x.ref] 36 (0, 0))) := Lib.hid (fun W hc => hc.keep hkb (fun x => x))
  clear hkb
  have l1 : ¬ (60 : Int) < (x.str.size : Int) := by omega
  have l2 : ¬ (60 : Int) < (s.size : Int) := by omega
  have hy1 := normM_int x hi
  have hy2 := normM_str x 60 (by omega)
  have hz1 := normM_int (normM x) hy1
  have hz2 := normM_str (normM x) 240 (by omega)
  have hzk := normM_same x
  have HN1 := Lib.hid (fun W (hc : Chg (fun _ => False) w W) => normal_any x W (by omega) (utf8_stay HU hc))
  have HN2 := Lib.hid (fun W (hc : Chg (fun _ => False) w W) => normal_any (normM x) W (by omega) (utf8_stay HU hc))
  have HR1 := Lib.hid (fun W (hc : Chg (fun _ => False) w W) => rnormal_any x W (by omega) (utf8_stay HU hc))
  have HR2 := Lib.hid (fun W (hc : Chg (fun _ => False) w W) => rnormal_any (normM x) W (by omega) (utf8_stay HU hc))
  have hkl := showM_len (normM (normM x)) (by omega) hz1
  have HKY := Lib.hid (fun W (hc : Chg (fun _ => False) w W) => key_in2 W x (normM x) (normM (normM x)) (fun W2 hc2 => HN1.out W2 (hc.trans' hc2)) (fun W2 hc2 => HN2.out W2 (hc.trans' hc2)) hk hzk hz1 (HT.still hc))
  have HSH := Lib.hid (fun W (hc : Chg (fun _ => False) w W) => rshow_in W (normM x) (normM (normM x)) (fun W2 hc2 => HR2.out W2 (hc.trans' hc2)) (by rw [hzk]; exact hk) hz1)
  have HP1 := Lib.hid (fun W (hc : Chg (fun _ => False) w W) => position_any s W (by omega) (HT.still hc))
  have HP2 := Lib.hid (fun W (hc : Chg (fun _ => False) w W) => position_any (showM (normM (normM x))) W (by omega) (HT.still hc))
  have HQ1 := Lib.hid (fun W => rposition_any s W (by omega))
  have HQ2 := Lib.hid (fun W => rposition_any (showM (normM (normM x))) W (by omega))
  clear HT HU hi hl hs hy1 hy2 hz1 hz2 hzk HN1 HN2 HR2 hkl
  generalize showM (normM (normM x)) = k at *
  generalize posM s = p1 at *
  generalize posM k = p2 at *
  generalize normM (normM x) = z at *
  generalize normM x = y at *
  obtain ⟨c, yi, ys, yr⟩ := y
  simp only at *
  rcases hk with hk | hk
  · subst hk
    go_enter Tryd.func5, Tryd.ntmps5
    go_upto_region 1 with fail
    generalize w.alloc (.cells #[.int .i64 x.kind, .int .i64 x.int, .string x.str, .int .i64 x.ref] 36) = w1 at *
    generalize hb2 : w.heap.size = b2 at HBX ⊢
    clear hb2
    go_upto_region 2 with (go_at_call 9; refine (HAW.out _ HC1.out).mono ?_; rintro e wa ⟨rfl, hca⟩; have HCA := Lib.hid (HC1.out.trans' hca); have q0 := cell_of_block (i := 0) (HBX.out _ hca) rfl; have q1 := cell_of_block (i := 1) (HBX.out _ hca) rfl; have q2 := cell_of_block (i := 2) (HBX.out _ hca) rfl; have q3 := cell_of_block (i := 3) (HBX.out _ hca) rfl; simp only [List.getElem_toArray, List.getElem_cons_zero, List.getElem_cons_succ] at q0 q1 q2 q3)
    have HCW := Lib.hid hca
    clear hca
    go_upto_region 4 with (go_at_call 18; refine (HKY.out _ HCA.out).mono ?_; rintro e wk ⟨rfl, hck⟩)
    have HCK := Lib.hid (HCA.out.trans' hck)
    have HCX := Lib.hid (HCW.out.trans' hck)
    clear hck q0 q1 q2 q3 HCW
    have q0 := cell_of_block (i := 0) (HBX.out _ HCX.out) rfl; have q1 := cell_of_block (i := 1) (HBX.out _ HCX.out) rfl; have q2 := cell_of_block (i := 2) (HBX.out _ HCX.out) rfl; have q3 := cell_of_block (i := 3) (HBX.out _ HCX.out) rfl; simp only [List.getElem_toArray, List.getElem_cons_zero, List.getElem_cons_succ] at q0 q1 q2 q3
    go_upto_region 5 with (go_at_call 19; refine (HR1.out _ HCK.out).mono ?_; rintro e wn ⟨rfl, hcn⟩)
    have hb7 := alloc_block wn (.cells #[.int .i64 3, .int .i64 yi, .string ys, .int .i64 yr] 36)
    have HC7 := Lib.hid ((HCK.out.trans' hcn).allocR (.cells #[.int .i64 3, .int .i64 yi, .string ys, .int .i64 yr] 36))
    clear hcn q0 q1 q2 q3 HCX
    generalize wn.alloc (.cells #[.int .i64 3, .int .i64 yi, .string ys, .int .i64 yr] 36) = w7 at *
    generalize wn.heap.size = b7 at *
    have m0 := cell_of_block (i := 0) hb7 rfl; have m1 := cell_of_block (i := 1) hb7 rfl; have m2 := cell_of_block (i := 2) hb7 rfl; have m3 := cell_of_block (i := 3) hb7 rfl; simp only [List.getElem_toArray, List.getElem_cons_zero, List.getElem_cons_succ] at m0 m1 m2 m3
    go_upto_region 6 with (go_at_call 20; refine (HSH.out _ HC7.out).mono ?_; rintro e ws ⟨rfl, hcs⟩)
    have HCS := Lib.hid (HC7.out.trans' hcs)
    have hb8 := hcs.keep hb7 (fun x => x)
    clear m0 m1 m2 m3 hb7
    have m0 := cell_of_block (i := 0) hb8 rfl; have m1 := cell_of_block (i := 1) hb8 rfl; have m2 := cell_of_block (i := 2) hb8 rfl; have m3 := cell_of_block (i := 3) hb8 rfl; simp only [List.getElem_toArray, List.getElem_cons_zero, List.getElem_cons_succ] at m0 m1 m2 m3
    clear hcs hb8
    go_upto_region 9 with fail
    go_wp2_with (first
      | (go_at_call 21; refine (HP1.out _ HCS.out).mono ?_; rintro e wp ⟨rfl, hcp⟩; have HCP := Lib.hid (HCS.out.trans' hcp); clear HP1 hcp)
      | (go_at_call 22; refine (HQ1.out _).mono ?_; rintro e wq ⟨rfl, rfl⟩; clear HQ1)
      | (go_at_call 21; refine (HP2.out _ HCP.out).mono ?_; rintro e wp2 ⟨rfl, hcp2⟩; have HCP2 := Lib.hid (HCP.out.trans' hcp2); clear HP2 hcp2)
      | (go_at_call 22; refine (HQ2.out _).mono ?_; rintro e wq2 ⟨rfl, rfl⟩; clear HQ2))
    go_ret
    exact ⟨rfl, HCP2.out.below (Nat.le_refl _) (fun _ x => x.elim)⟩

  · subst hk
    go_enter Tryd.func5, Tryd.ntmps5
    go_upto_region 1 with fail
    generalize w.alloc (.cells #[.int .i64 x.kind, .int .i64 x.int, .string x.str, .int .i64 x.ref] 36) = w1 at *
    generalize hb2 : w.heap.size = b2 at HBX ⊢
    clear hb2
    go_upto_region 2 with (go_at_call 9; refine (HAW.out _ HC1.out).mono ?_; rintro e wa ⟨rfl, hca⟩; have HCA := Lib.hid (HC1.out.trans' hca); have q0 := cell_of_block (i := 0) (HBX.out _ hca) rfl; have q1 := cell_of_block (i := 1) (HBX.out _ hca) rfl; have q2 := cell_of_block (i := 2) (HBX.out _ hca) rfl; have q3 := cell_of_block (i := 3) (HBX.out _ hca) rfl; simp only [List.getElem_toArray, List.getElem_cons_zero, List.getElem_cons_succ] at q0 q1 q2 q3)
    have HCW := Lib.hid hca
    clear hca
    go_upto_region 4 with (go_at_call 18; refine (HKY.out _ HCA.out).mono ?_; rintro e wk ⟨rfl, hck⟩)
    have HCK := Lib.hid (HCA.out.trans' hck)
    have HCX := Lib.hid (HCW.out.trans' hck)
    clear hck q0 q1 q2 q3 HCW
    have q0 := cell_of_block (i := 0) (HBX.out _ HCX.out) rfl; have q1 := cell_of_block (i := 1) (HBX.out _ HCX.out) rfl; have q2 := cell_of_block (i := 2) (HBX.out _ HCX.out) rfl; have q3 := cell_of_block (i := 3) (HBX.out _ HCX.out) rfl; simp only [List.getElem_toArray, List.getElem_cons_zero, List.getElem_cons_succ] at q0 q1 q2 q3
    go_upto_region 5 with (go_at_call 19; refine (HR1.out _ HCK.out).mono ?_; rintro e wn ⟨rfl, hcn⟩)
    have hb7 := alloc_block wn (.cells #[.int .i64 4, .int .i64 yi, .string ys, .int .i64 yr] 36)
    have HC7 := Lib.hid ((HCK.out.trans' hcn).allocR (.cells #[.int .i64 4, .int .i64 yi, .string ys, .int .i64 yr] 36))
    clear hcn q0 q1 q2 q3 HCX
    generalize wn.alloc (.cells #[.int .i64 4, .int .i64 yi, .string ys, .int .i64 yr] 36) = w7 at *
    generalize wn.heap.size = b7 at *
    have m0 := cell_of_block (i := 0) hb7 rfl; have m1 := cell_of_block (i := 1) hb7 rfl; have m2 := cell_of_block (i := 2) hb7 rfl; have m3 := cell_of_block (i := 3) hb7 rfl; simp only [List.getElem_toArray, List.getElem_cons_zero, List.getElem_cons_succ] at m0 m1 m2 m3
    go_upto_region 6 with (go_at_call 20; refine (HSH.out _ HC7.out).mono ?_; rintro e ws ⟨rfl, hcs⟩)
    have HCS := Lib.hid (HC7.out.trans' hcs)
    have hb8 := hcs.keep hb7 (fun x => x)
    clear m0 m1 m2 m3 hb7
    have m0 := cell_of_block (i := 0) hb8 rfl; have m1 := cell_of_block (i := 1) hb8 rfl; have m2 := cell_of_block (i := 2) hb8 rfl; have m3 := cell_of_block (i := 3) hb8 rfl; simp only [List.getElem_toArray, List.getElem_cons_zero, List.getElem_cons_succ] at m0 m1 m2 m3
    clear hcs hb8
    go_upto_region 9 with fail
    go_wp2_with (first
      | (go_at_call 21; refine (HP1.out _ HCS.out).mono ?_; rintro e wp ⟨rfl, hcp⟩; have HCP := Lib.hid (HCS.out.trans' hcp); clear HP1 hcp)
      | (go_at_call 22; refine (HQ1.out _).mono ?_; rintro e wq ⟨rfl, rfl⟩; clear HQ1)
      | (go_at_call 21; refine (HP2.out _ HCP.out).mono ?_; rintro e wp2 ⟨rfl, hcp2⟩; have HCP2 := Lib.hid (HCP.out.trans' hcp2); clear HP2 hcp2)
      | (go_at_call 22; refine (HQ2.out _).mono ?_; rintro e wq2 ⟨rfl, rfl⟩; clear HQ2))
    go_ret
    exact ⟨rfl, HCP2.out.below (Nat.le_refl _) (fun _ x => x.elim)⟩

theorem heapKeys_core (x : Val) (s : ByteArray) (w : World) (hx : (-9223372036854775808 ≤ x.int ∧ x.int ≤ 9223372036854775807) ∧ x.str.size ≤ maxLen) (HT : Tabs w) (HU : Lib.Utf8Tabs 0 1 w) :
    Calls Tryd.prog 5 #[.agg #[.int .i64 x.kind, .int .i64 x.int, .string x.str, .int .i64 x.ref], .string s] w fun e w' => e = .returned (.bool true) ∧ Below w.heap.size w w' := by
  by_cases hl : 60 < x.str.size
  · exact heapKeys_long x s w HT hl
  · by_cases hs : 60 < s.size
    · exact heapKeys_text x s w HT hl hs
    · by_cases hk : (normM x).kind = 3 ∨ (normM x).kind = 4
      · exact heapKeys_in x s w HT HU hx.1 hl hs hk
      · exact heapKeys_out x s w HT HU hx.1 hl hs ⟨fun h => hk (.inl h), fun h => hk (.inr h)⟩
end Go.Proofs.YtjianickjahdnaaDoor
namespace Go.Proofs.YtjianickjahdnaaDoor
open Go.RowKit Go.ChangeShapes
set_option linter.unusedVariables false
set_option linter.unusedSimpArgs false

theorem starE : "*" ++ "errors.errorString" = "*errors.errorString" := by decide
theorem rowE (u : TypeId) (h : Tryd.prog.typeName? 3 u = some "*errors.errorString") : u = 146 :=
  typeName_ptr_named (nm := "errors.errorString") (by rw [starE]; kernel_rfl) (by kernel_rfl) (by decide) u (by rw [starE]; exact h)
theorem pow_datum : (Rows.laid_internal_strconv_uint64pow10 : DataW Unit) = Lib.tabData .u64 Lib.pow10Tab := by kernel_rfl
set_option maxRecDepth 100000 in
theorem tabs_of_laid {W : World} (h : laidMetH Tryd.prog Rows.heapBeginsRow.laid W) : Tabs W := by
  rw [MakeChecks.laidMetH_plain _ _ _ (by kernel_rfl)] at h
  have h1 : laidMet Tryd.prog (("internal/strconv.uint64pow10", Rows.laid_internal_strconv_uint64pow10) :: _) W := h.tail.tail
  rw [pow_datum] at h1
  obtain ⟨a1, t1, hv1, -⟩ := laid_sentinel (g := (Tryd.prog.globalNamed "strconv.ErrRange").getD 0) h1.tail.tail (by kernel_rfl) (by kernel_rfl) Tryd.underlying97 rowE Tryd.underlying146 Tryd.underlying148 rfl rfl Tryd.underlying9 (by kernel_rfl) (by kernel_rfl)
  obtain ⟨a0, t0, hv0, -⟩ := laid_sentinel (g := (Tryd.prog.globalNamed "strconv.ErrSyntax").getD 0) h1.tail.tail.tail (by kernel_rfl) (by kernel_rfl) Tryd.underlying97 rowE Tryd.underlying146 Tryd.underlying148 rfl rfl Tryd.underlying9 (by kernel_rfl) (by kernel_rfl)
  exact ⟨Lib.tabIs_of_head (g := (Tryd.prog.globalNamed "internal/strconv.uint64pow10").getD 0) (by kernel_rfl) (by kernel_rfl) Tryd.underlying138 Tryd.underlying108 (by kernel_rfl) (by kernel_rfl) h1, ⟨_, _, hv0⟩, ⟨_, _, hv1⟩⟩
end Go.Proofs.YtjianickjahdnaaDoor
namespace Go.Proofs.YtjianickjahdnaaDoor
set_option linter.unusedVariables false
open Go.ChangeShapes Go.WideShapes Go.ChangeAt Go.RowKit

theorem trod_lengths {P : Program} {H : Type} {enc : TypeId × Value → H} {W : World} : ∀ (ts : List TypeId) (vs : List Value) (ds : List (DataW H)) (ps : List MemPlace), DataW.TrodAll enc P W 0 (fun _ => true) true ts vs ds ps → ds.length = ts.length := by
  intro ts
  induction ts with
  | nil => intro vs ds ps h; cases vs <;> cases ds <;> first | rfl | exact h.elim
  | cons t ts ih => intro vs ds ps h; cases vs <;> cases ds <;> first | exact h.elim | (obtain ⟨_, _, _, h2, _⟩ := h; simp [ih _ _ _ h2])

/-- A law's contract lifted to its row, over listed variables. -/
theorem law_liftD {C : Checked} {os : Os} {f : FuncId} {fn : Func} {s : ChangeSpec} {H : Type} {enc : TypeId × Value → H} {tb : TypeId} {F : Stop.Interp} {laid : List (String × DataW Unit)} (started : os.Started)
    (own : ownKnob C.prog.godebug = none) (hl : laidOutB C.prog = true) (noInit : C.prog.inits.idxOf? f = none) (hfn : C.prog.funcs[f]? = some fn) (hts : rowed C.prog fn.params.toList = true) (hres : fn.resultTypes = #[tb]) (hbool : C.prog.underlying tb = some .bool) (hvars : s.vars = [])
    (hargs : ∀ ds : List (DataW H), ds.length = fn.params.toList.length → s.fn H ds = { results := [.lit (.bool true)], args := ds })
    (witness : ∃ (w : World) (tape : Tape) (i : Input), w.os = os ∧ (w.forCall tape i).Shaped C.prog ∧ i.vars = [] ∧ Input.okWide C.prog (w.forCall tape i) .any w.heap.size f i ∧
      (OpenSpec.ofChange s).preRow enc C.prog fn [] false laid (w.forCall tape i).memory i.args ∧ Assume.holds {} C.prog (lone (Frame.enter C.prog f i.args .normal) [] (w.forCall tape i)))
    (core : ∀ (W : World) (base : Nat) (vs : List Value) (ds : List (DataW H)) (ps : List MemPlace), (∀ (j : Nat) t v, fn.params.toList[j]? = some t → vs[j]? = some v → Value.okWide C.prog W .any base t v) →
      DataW.TrodAll enc C.prog W 0 (fun _ => true) true fn.params.toList vs ds ps → (DataW.weightsEach C.prog fn.params.toList ds).all (· ≤ reachBytes) = true → laidMetH C.prog laid W →
      Calls C.prog f vs.toArray W fun e W' => e = .returned (.bool true) ∧ Below W.heap.size W W') :
    ReturnsInHanded {} C os f .any ((OpenSpec.ofChange s).preRow enc C.prog fn [] false laid) (((OpenSpec.ofChange s).at F).post enc C.prog fn false true false false) := by
  refine returnsInHanded_of_row (C := C) (s := OpenSpec.ofChange s) own started noInit hfn witness ?_
  intro W base args ds gs before hval hW _ _ hsz hL _ _
  have hW' : DataW.Whole enc C.prog fn.params.toList s.vars false W args.toList ds gs before := hW
  obtain ⟨p, q, hA, hV, rfl, hfz, hnd⟩ := hW'
  have hV' : DataW.TrodVars enc C.prog W (fun _ => true) s.vars gs q := hV
  rw [hvars] at hV'
  obtain ⟨rfl, rfl⟩ := trodVars_none hV'
  simp only [List.append_nil] at hsz
  have hlen : ds.length = fn.params.toList.length := trod_lengths _ _ _ _ hA
  have hvt : (OpenSpec.ofChange s).bare.plain.varTypes C.prog = [] := by simp [OpenSpec.ofChange, OpenSpec.bare, DataSpec.varTypes, ChangeSpec.plain, hvars]
  rw [hvt, List.append_nil] at hsz
  have := core W base args.toList ds p (fun j t v h1 h2 => hval j t v (by simpa using h1) (by simpa using h2)) hA hsz hL
  rw [Array.toArray_toList] at this
  refine this.mono fun e W' ⟨he, hb⟩ => ⟨_, he, ?_⟩
  exact (law_post (s := s) hl hts hres hbool hvars hW (by rw [List.append_nil]; exact hargs ds hlen) hb)

/-- The same for the second row (bulk at most 1048576). -/
theorem law_liftD_upto {C : Checked} {os : Os} {f : FuncId} {fn : Func} {s : ChangeSpec} {H : Type} {enc : TypeId × Value → H} {tb : TypeId} {F : Stop.Interp} {laid : List (String × DataW Unit)} (started : os.Started)
    (own : ownKnob C.prog.godebug = none) (hl : laidOutB C.prog = true) (noInit : C.prog.inits.idxOf? f = none) (hfn : C.prog.funcs[f]? = some fn) (hts : rowed C.prog fn.params.toList = true) (hres : fn.resultTypes = #[tb]) (hbool : C.prog.underlying tb = some .bool) (hvars : s.vars = [])
    (hargs : ∀ ds : List (DataW H), ds.length = fn.params.toList.length → s.fn H ds = { results := [.lit (.bool true)], args := ds })
    (witness : ∃ (w : World) (tape : Tape) (i : Input), w.os = os ∧ (w.forCall tape i).Shaped C.prog ∧ i.vars = [] ∧ Input.okWide C.prog (w.forCall tape i) .any w.heap.size f i ∧
      (Rows.OpenSpec.upto s).preRow enc C.prog fn [] false laid (w.forCall tape i).memory i.args ∧ Assume.holds {} C.prog (lone (Frame.enter C.prog f i.args .normal) [] (w.forCall tape i)))
    (core : ∀ (W : World) (base : Nat) (vs : List Value) (ds : List (DataW H)) (ps : List MemPlace), (∀ (j : Nat) t v, fn.params.toList[j]? = some t → vs[j]? = some v → Value.okWide C.prog W .any base t v) →
      DataW.TrodAll enc C.prog W 0 (fun _ => true) true fn.params.toList vs ds ps → Rows.uptoBulkAll ds ≤ 1048576 → laidMetH C.prog laid W →
      Calls C.prog f vs.toArray W fun e W' => e = .returned (.bool true) ∧ Below W.heap.size W W') :
    ReturnsInHanded {} C os f .any ((Rows.OpenSpec.upto s).preRow enc C.prog fn [] false laid) (((Rows.OpenSpec.upto s).at F).post enc C.prog fn false true false false) := by
  refine returnsInHanded_of_row (C := C) (s := Rows.OpenSpec.upto s) own started noInit hfn witness ?_
  intro W base args ds gs before hval hW _ hk _ hL _ _
  have hW' : DataW.Whole enc C.prog fn.params.toList s.vars false W args.toList ds gs before := hW
  obtain ⟨p, q, hA, hV, rfl, hfz, hnd⟩ := hW'
  have hV' : DataW.TrodVars enc C.prog W (fun _ => true) s.vars gs q := hV
  rw [hvars] at hV'
  obtain ⟨rfl, rfl⟩ := trodVars_none hV'
  have hk2 := hk Rows.uptoSmall rfl
  simp only [List.append_nil] at hk2
  have hlen : ds.length = fn.params.toList.length := trod_lengths _ _ _ _ hA
  have := core W base args.toList ds p (fun j t v h1 h2 => hval j t v (by simpa using h1) (by simpa using h2)) hA (of_decide_eq_true hk2) hL
  rw [Array.toArray_toList] at this
  refine this.mono fun e W' ⟨he, hb⟩ => ⟨_, he, ?_⟩
  exact (law_post (s := s) hl hts hres hbool hvars hW (by rw [List.append_nil]; exact hargs ds hlen) hb)
end Go.Proofs.YtjianickjahdnaaDoor
namespace Go.Proofs.YtjianickjahdnaaDoor
open Go.RowKit Go.ChangeShapes Go.WideShapes Go.ChangeAt
open Go.ChangeMaps (open_string shut_string)
set_option linter.unusedVariables false
set_option linter.unusedSimpArgs false

set_option maxRecDepth 100000 in
theorem heapKeys_laid (os : Os) : laidMetH Tryd.prog Rows.heapKeysRow.laid ((World.laidAll Tryd.prog os Rows.heapKeysRow.laid).forCall (fun _ _ => 0) ⟨#[], #[.agg #[.int .i64 0, .int .i64 0, .string ByteArray.empty, .int .i64 0], .string ByteArray.empty], []⟩).memory := by
  rw [MakeChecks.laidMetH_plain _ _ _ (by kernel_rfl)]
  exact laidMet_laidAll _ (by kernel_rfl) (by kernel_rfl)
set_option maxRecDepth 100000 in
theorem heapKeys_lifted (os : Os) (started : os.Started) (H : Type) (enc : TypeId × Value → H) (F : Stop.Interp) :
    ReturnsInHanded {} Tryd.checked os 5 .any ((OpenSpec.ofChange Rows.heapKeysSpec).preRow enc Tryd.prog Tryd.f5 [] false Rows.heapKeysRow.laid) (((OpenSpec.ofChange Rows.heapKeysSpec).at F).post enc Tryd.prog Tryd.f5 false true false false) := by
  obtain ⟨places, hx⟩ : ∃ places, DataW.whole enc Tryd.prog ((World.laidAll Tryd.prog os Rows.heapKeysRow.laid).forCall (fun _ _ => 0) ⟨#[], #[.agg #[.int .i64 0, .int .i64 0, .string ByteArray.empty, .int .i64 0], .string ByteArray.empty], []⟩).memory Tryd.f5.params.toList [] false (#[.agg #[.int .i64 0, .int .i64 0, .string ByteArray.empty, .int .i64 0], .string ByteArray.empty] : Array Value).toList 8 = some ([.agg [.lit (.int .i64 0), .lit (.int .i64 0), .lit (.string []), .lit (.int .i64 0)], .lit (.string [])], [], places) := ⟨[], by kernel_rfl⟩
  refine law_liftD (C := Tryd.checked) (s := Rows.heapKeysSpec) (tb := 4) started Tryd.own Tryd.laidOut (by kernel_rfl) Tryd.func5 (by kernel_rfl) rfl Tryd.underlying4 rfl ?_
    (witness_row_at (enc := enc) (C := Tryd.checked) false (World.laidAll Tryd.prog os Rows.heapKeysRow.laid) #[.agg #[.int .i64 0, .int .i64 0, .string ByteArray.empty, .int .i64 0], .string ByteArray.empty] (World.laidAll_os _ _ _) (by kernel_rfl) (by kernel_rfl) (by kernel_rfl)
      (OpenSpec.preRow_of_cond 8 hx (by kernel_rfl) (fun k hk => by cases hk) (by kernel_rfl) (heapKeys_laid os))) ?_
  · intro ds h
    match ds, h with
    | [_, _], _ => rfl
  · intro W base vs ds ps hval hA hsz hL
    have hp : Tryd.f5.params.toList = [36, 9] := by rw [Tryd.params5]
    rw [hp] at hval hA hsz
    obtain ⟨v0, vs0, d0, ds0, p0, q0, rfl, rfl, rfl, h0, r0⟩ := trodAll_cons hA
    obtain ⟨v1, vs1, d1, ds1, p1, q1, rfl, rfl, rfl, h1, r1⟩ := trodAll_cons r0
    obtain ⟨rfl, rfl, rfl⟩ := trodAll_nil r1
    obtain ⟨a0, rfl, w0⟩ := open_value (hval 0 36 v0 rfl rfl) h0
    obtain ⟨a1, rfl, rfl, rfl, w1⟩ := open_string Tryd.underlying9 (hval 1 9 v1 rfl rfl) h1
    have l1 : a1.size ≤ 140737488351232 := by have := sized_string hsz (j := 1) (t := 9) rfl rfl; simpa [reachBytes] using this
    exact heapKeys_core a0 a1 W w0 (tabs_of_laid hL) (utf8_of_laid hL)

theorem heapKeys_said : Rows.HeapKeysSaid :=
  OpenClaim.holds_of_cond 5 Tryd.f5 rfl rfl rfl rfl rfl rfl rfl ⟨rfl, rfl, rfl, rfl, rfl⟩ rfl rfl rfl rfl rfl (by kernel_rfl) Tryd.func5 (by kernel_rfl)
    (of_decide_eq_true (by kernel_rfl)) (by unfold Func.isWrapper; first | (rw [if_pos (by decide +kernel)]; kernel_rfl) | (rw [if_neg (by decide +kernel)]; exact ⟨rfl, rfl⟩))
    (fun os started H enc _ F => by rw [OpenClaim.pre_eq_preRow]; exact heapKeys_lifted os started H enc F)
theorem heapKeys_plain (f : FuncId) (fn : Func) (hf : Tryd.pinned.checked.prog.funcNamed "knapsack/knapsacklaw31.HeapKeys" = some f) (hfn : Tryd.pinned.checked.prog.funcs[f]? = some fn) :
    true = Tryd.pinned.checked.prog.looks [] ∧ ∀ (j : Nat) t, fn.params[j]? = some t → Tryd.pinned.checked.prog.wantsStandIn t = false := by
  obtain rfl : f = 5 := Option.some.inj ((show Tryd.prog.funcNamed "knapsack/knapsacklaw31.HeapKeys" = some 5 by kernel_rfl).symm.trans hf) |>.symm
  obtain rfl : fn = Tryd.f5 := (Option.some.inj (Tryd.func5.symm.trans hfn)).symm
  refine ⟨by kernel_rfl, fun j t ht => ?_⟩
  rw [Tryd.params5] at ht
  have hm : t ∈ [36, 9] := by simpa using Array.mem_of_getElem? ht
  have hall : ([36, 9].all fun u => !Tryd.prog.wantsStandIn u) = true := by kernel_rfl
  exact (show Tryd.prog.wantsStandIn t = false by simpa using List.all_eq_true.1 hall t hm)
/-- The tied card. -/
theorem heapKeys_holds : Rows.HeapKeysCardSaid :=
  Claim7.holds_tied_plain_at .later [] _ _ _ _ heapKeys_said (fun _ h => by cases h) (by kernel_rfl) (fun _ h => by cases h) heapKeys_row_tie rfl ⟨rfl, rfl⟩ (by kernel_rfl) rfl heapKeys_plain (by kernel_rfl)
#print axioms heapKeys_holds
end Go.Proofs.YtjianickjahdnaaDoor
