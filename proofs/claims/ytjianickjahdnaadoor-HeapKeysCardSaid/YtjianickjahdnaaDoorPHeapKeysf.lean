/-
  value.Show of integers and strings; heap.Key.
  strings.Builder.WriteRune and unicode/utf8.ValidString at this program.
  text.Repair: a string with U+FFFD in place of what is no UTF-8.
  heap.Make.
  A heap and a list of numbers side by side, both made behind w0.
  heap.Put of a property (an object that is no array).
  Rows of flat data in fields, changed in place or made anew; zeros appended to a row.
-/
import Derived.Test.YtjianickjahdnaaDoorPHeapKeysa
import Derived.Test.YtjianickjahdnaaDoorPHeapKeysd
import Derived.Test.YtjianickjahdnaaDoorPHeapKeyse
import Derived.Lib.LaidU8T
import Derived.PinnedBridge
import Derived.Lib.OthersKept
import Derived.Laws.RangeAny
import Derived.BigCall
import Derived.Test.YtjianickjahdnaaDoorPHeapKeysb
import Derived.IntWalk
namespace Go.Proofs.YtjianickjahdnaaDoor
open Go.RowKit
set_option linter.unusedVariables false
set_option linter.unusedSimpArgs false

def itoaB (v : Int) : ByteArray := ⟨(Lib.itoa v).toArray⟩
/-- The text of an integer, of a string. -/
def showM (y : Val) : ByteArray := if y.kind = 3 then itoaB y.int else y.str
set_option maxHeartbeats 3200000 in
set_option maxRecDepth 100000 in
theorem show_in (w : World) (x y : Val) (HN : ∀ W, Chg (fun _ => False) w W → Calls Tryd.prog 37 #[.agg #[.int .i64 x.kind, .int .i64 x.int, .string x.str, .int .i64 x.ref]] W fun e w' => e = .returned (.agg #[.int .i64 y.kind, .int .i64 y.int, .string y.str, .int .i64 y.ref]) ∧ Chg (fun _ => False) W w') (hk : y.kind = 3 ∨ y.kind = 4) (hi : -9223372036854775808 ≤ y.int ∧ y.int ≤ 9223372036854775807) (HT : Tabs w) :
    Calls Tryd.prog 38 #[.agg #[.int .i64 x.kind, .int .i64 x.int, .string x.str, .int .i64 x.ref]] w fun e w' => e = .returned (.tuple #[.string (showM y), .int .i64 0]) ∧ Chg (fun _ => False) w w' := by
  have HNN := Lib.hid HN
  have HKB := Lib.hid (alloc_block w (.cells #[.int .i64 x.kind, .int .i64 x.int, .string x.str, .int .i64 x.ref] 36))
  have HCA := Lib.hid (Chg.alloc (fun _ => False) w (.cells #[.int .i64 x.kind, .int .i64 x.int, .string x.str, .int .i64 x.ref] 36))
  clear HN
  have HI := Lib.hid hi
  have HTT := Lib.hid HT
  have hsh : (y.kind = 3 → showM y = itoaB y.int) ∧ (y.kind = 4 → showM y = y.str) := ⟨fun h => if_pos h, fun h => if_neg (by rw [h]; decide)⟩
  have HSH := Lib.hid hsh
  clear hi HT hsh
  rcases hk with hk | hk
  · rw [HSH.out.1 hk]
    have HK := Lib.hid hk
    clear HSH hk
    go_enter Tryd.func38, Tryd.ntmps38
    go_upto_region 1 with fail
    generalize w.alloc (.cells #[.int .i64 x.kind, .int .i64 x.int, .string x.str, .int .i64 x.ref] 36) = w1 at *
    generalize hb1 : w.heap.size = b1 at *
    have HB1 := Lib.hid hb1
    clear hb1
    have k0 := cell_of_block (i := 0) HKB.out rfl
    have k1 := cell_of_block (i := 1) HKB.out rfl
    have k2 := cell_of_block (i := 2) HKB.out rfl
    have k3 := cell_of_block (i := 3) HKB.out rfl
    simp only [List.getElem_toArray, List.getElem_cons_zero, List.getElem_cons_succ] at k0 k1 k2 k3
    go_upto_region 2 with (go_at_call 37; refine (HNN.out _ HCA.out).mono ?_; rintro e wn ⟨rfl, hcn⟩; have hbn := hcn.keep HKB.out (fun x => x); obtain ⟨z10, q0, z11, q1, z12, q2, z13, q3, hbf, hcs⟩ := store4 hbn (.int .i64 y.kind) (.int .i64 y.int) (.string y.str) (.int .i64 y.ref))
    have HC4 := Lib.hid (show Chg (fun _ => False) w (((((wn.setCell ⟨b1, 0, none⟩ (.int .i64 y.kind)).setCell ⟨b1, 1, none⟩ (.int .i64 y.int)).setCell ⟨b1, 2, none⟩ (.string y.str)).setCell ⟨b1, 3, none⟩ (.int .i64 y.ref))) from (HCA.out.trans' hcn).trans hcs (fun _ _ x => x) (fun k hk e => by have := HB1.out; omega))
    clear hcs hcn hbn z10 q0 z11 q1 z12 q2 z13 q3 k0 k1 k2 k3
    generalize ((((wn.setCell ⟨b1, 0, none⟩ (.int .i64 y.kind)).setCell ⟨b1, 1, none⟩ (.int .i64 y.int)).setCell ⟨b1, 2, none⟩ (.string y.str)).setCell ⟨b1, 3, none⟩ (.int .i64 y.ref)) = w4 at *
    have n0 := cell_of_block (i := 0) hbf rfl
    have n1 := cell_of_block (i := 1) hbf rfl
    have n2 := cell_of_block (i := 2) hbf rfl
    have n3 := cell_of_block (i := 3) hbf rfl
    simp only [List.getElem_toArray, List.getElem_cons_zero, List.getElem_cons_succ] at n0 n1 n2 n3
    clear hbf HKB HCA HNN HB1
    rw [HK.out] at n0
    clear HK
    have HF := Lib.hid (fmt_any y.int w4 HI.out (HTT.out.still HC4.out))
    go_wp2_with (go_at_call 55; refine HF.out.mono ?_; rintro e w5 ⟨rfl, hc5⟩)
    go_ret2
    exact ⟨rfl, HC4.out.trans' hc5⟩
  · rw [HSH.out.2 hk]
    have HK := Lib.hid hk
    clear HSH hk
    go_enter Tryd.func38, Tryd.ntmps38
    go_upto_region 1 with fail
    generalize w.alloc (.cells #[.int .i64 x.kind, .int .i64 x.int, .string x.str, .int .i64 x.ref] 36) = w1 at *
    generalize hb1 : w.heap.size = b1 at *
    have HB1 := Lib.hid hb1
    clear hb1
    have k0 := cell_of_block (i := 0) HKB.out rfl
    have k1 := cell_of_block (i := 1) HKB.out rfl
    have k2 := cell_of_block (i := 2) HKB.out rfl
    have k3 := cell_of_block (i := 3) HKB.out rfl
    simp only [List.getElem_toArray, List.getElem_cons_zero, List.getElem_cons_succ] at k0 k1 k2 k3
    go_upto_region 2 with (go_at_call 37; refine (HNN.out _ HCA.out).mono ?_; rintro e wn ⟨rfl, hcn⟩; have hbn := hcn.keep HKB.out (fun x => x); obtain ⟨z10, q0, z11, q1, z12, q2, z13, q3, hbf, hcs⟩ := store4 hbn (.int .i64 y.kind) (.int .i64 y.int) (.string y.str) (.int .i64 y.ref))
    have HC4 := Lib.hid (show Chg (fun _ => False) w (((((wn.setCell ⟨b1, 0, none⟩ (.int .i64 y.kind)).setCell ⟨b1, 1, none⟩ (.int .i64 y.int)).setCell ⟨b1, 2, none⟩ (.string y.str)).setCell ⟨b1, 3, none⟩ (.int .i64 y.ref))) from (HCA.out.trans' hcn).trans hcs (fun _ _ x => x) (fun k hk e => by have := HB1.out; omega))
    clear hcs hcn hbn z10 q0 z11 q1 z12 q2 z13 q3 k0 k1 k2 k3
    generalize ((((wn.setCell ⟨b1, 0, none⟩ (.int .i64 y.kind)).setCell ⟨b1, 1, none⟩ (.int .i64 y.int)).setCell ⟨b1, 2, none⟩ (.string y.str)).setCell ⟨b1, 3, none⟩ (.int .i64 y.ref)) = w4 at *
    have n0 := cell_of_block (i := 0) hbf rfl
    have n1 := cell_of_block (i := 1) hbf rfl
    have n2 := cell_of_block (i := 2) hbf rfl
    have n3 := cell_of_block (i := 3) hbf rfl
    simp only [List.getElem_toArray, List.getElem_cons_zero, List.getElem_cons_succ] at n0 n1 n2 n3
    clear hbf HKB HCA HNN HB1
    rw [HK.out] at n0
    clear HK
    go_wp2_with fail
    go_ret2
    exact ⟨rfl, HC4.out⟩
set_option maxHeartbeats 3200000 in
set_option maxRecDepth 100000 in
theorem key_in (w : World) (x y : Val) (HN : ∀ W, Chg (fun _ => False) w W → Calls Tryd.prog 37 #[.agg #[.int .i64 x.kind, .int .i64 x.int, .string x.str, .int .i64 x.ref]] W fun e w' => e = .returned (.agg #[.int .i64 y.kind, .int .i64 y.int, .string y.str, .int .i64 y.ref]) ∧ Chg (fun _ => False) W w') (HN2 : ∀ W, Chg (fun _ => False) w W → Calls Tryd.prog 37 #[.agg #[.int .i64 y.kind, .int .i64 y.int, .string y.str, .int .i64 y.ref]] W fun e w' => e = .returned (.agg #[.int .i64 y.kind, .int .i64 y.int, .string y.str, .int .i64 y.ref]) ∧ Chg (fun _ => False) W w') (hk : y.kind = 3 ∨ y.kind = 4) (hi : -9223372036854775808 ≤ y.int ∧ y.int ≤ 9223372036854775807) (HT : Tabs w) :
    Calls Tryd.prog 18 #[.agg #[.int .i64 x.kind, .int .i64 x.int, .string x.str, .int .i64 x.ref]] w fun e w' => e = .returned (.tuple #[.string (showM y), .bool true]) ∧ Chg (fun _ => False) w w' := by
  have HNN := Lib.hid HN
  have HKB := Lib.hid (alloc_block w (.cells #[.int .i64 x.kind, .int .i64 x.int, .string x.str, .int .i64 x.ref] 36))
  have HCA := Lib.hid (Chg.alloc (fun _ => False) w (.cells #[.int .i64 x.kind, .int .i64 x.int, .string x.str, .int .i64 x.ref] 36))
  clear HN
  have HSW := Lib.hid (fun W (hc : Chg (fun _ => False) w W) => show_in W y y (fun W2 hc2 => HN2 W2 (hc.trans' hc2)) hk hi (HT.still hc))
  clear hi HT HN2
  generalize showM y = s at *
  go_enter Tryd.func18, Tryd.ntmps18
  go_upto_region 1 with fail
  generalize w.alloc (.cells #[.int .i64 x.kind, .int .i64 x.int, .string x.str, .int .i64 x.ref] 36) = w1 at *
  generalize hb1 : w.heap.size = b1 at *
  have HB1 := Lib.hid hb1
  clear hb1
  have k0 := cell_of_block (i := 0) HKB.out rfl
  have k1 := cell_of_block (i := 1) HKB.out rfl
  have k2 := cell_of_block (i := 2) HKB.out rfl
  have k3 := cell_of_block (i := 3) HKB.out rfl
  simp only [List.getElem_toArray, List.getElem_cons_zero, List.getElem_cons_succ] at k0 k1 k2 k3
  go_upto_region 2 with (go_at_call 37; refine (HNN.out _ HCA.out).mono ?_; rintro e wn ⟨rfl, hcn⟩; have hbn := hcn.keep HKB.out (fun x => x); obtain ⟨z10, q0, z11, q1, z12, q2, z13, q3, hbf, hcs⟩ := store4 hbn (.int .i64 y.kind) (.int .i64 y.int) (.string y.str) (.int .i64 y.ref))
  have HC4 := Lib.hid (show Chg (fun _ => False) w (((((wn.setCell ⟨b1, 0, none⟩ (.int .i64 y.kind)).setCell ⟨b1, 1, none⟩ (.int .i64 y.int)).setCell ⟨b1, 2, none⟩ (.string y.str)).setCell ⟨b1, 3, none⟩ (.int .i64 y.ref))) from (HCA.out.trans' hcn).trans hcs (fun _ _ x => x) (fun k hk e => by have := HB1.out; omega))
  clear hcs hcn hbn z10 q0 z11 q1 z12 q2 z13 q3 k0 k1 k2 k3
  generalize ((((wn.setCell ⟨b1, 0, none⟩ (.int .i64 y.kind)).setCell ⟨b1, 1, none⟩ (.int .i64 y.int)).setCell ⟨b1, 2, none⟩ (.string y.str)).setCell ⟨b1, 3, none⟩ (.int .i64 y.ref)) = w4 at *
  have n0 := cell_of_block (i := 0) hbf rfl
  have n1 := cell_of_block (i := 1) hbf rfl
  have n2 := cell_of_block (i := 2) hbf rfl
  have n3 := cell_of_block (i := 3) hbf rfl
  simp only [List.getElem_toArray, List.getElem_cons_zero, List.getElem_cons_succ] at n0 n1 n2 n3
  clear hbf HKB HCA HNN HB1
  have HS := Lib.hid (HSW.out w4 HC4.out)
  clear HSW
  rcases hk with hk | hk
  · rw [hk] at n0 HS
    clear hk
    go_wp2_with (go_at_call 38; refine HS.out.mono ?_; rintro e w5 ⟨rfl, hc5⟩)
    go_ret2
    exact ⟨rfl, HC4.out.trans' hc5⟩
  · rw [hk] at n0 HS
    clear hk
    go_wp2_with (go_at_call 38; refine HS.out.mono ?_; rintro e w5 ⟨rfl, hc5⟩)
    go_ret2
    exact ⟨rfl, HC4.out.trans' hc5⟩
set_option maxHeartbeats 3200000 in
set_option maxRecDepth 100000 in
theorem key_out (w : World) (x y : Val) (HN : ∀ W, Chg (fun _ => False) w W → Calls Tryd.prog 37 #[.agg #[.int .i64 x.kind, .int .i64 x.int, .string x.str, .int .i64 x.ref]] W fun e w' => e = .returned (.agg #[.int .i64 y.kind, .int .i64 y.int, .string y.str, .int .i64 y.ref]) ∧ Chg (fun _ => False) W w') (hk : ¬ y.kind = 3 ∧ ¬ y.kind = 4) :
    Calls Tryd.prog 18 #[.agg #[.int .i64 x.kind, .int .i64 x.int, .string x.str, .int .i64 x.ref]] w fun e w' => e = .returned (.tuple #[.string ⟨#[]⟩, .bool false]) ∧ Chg (fun _ => False) w w' := by
  have HNN := Lib.hid HN
  have HKB := Lib.hid (alloc_block w (.cells #[.int .i64 x.kind, .int .i64 x.int, .string x.str, .int .i64 x.ref] 36))
  have HCA := Lib.hid (Chg.alloc (fun _ => False) w (.cells #[.int .i64 x.kind, .int .i64 x.int, .string x.str, .int .i64 x.ref] 36))
  clear HN
  have z3 : (y.kind != 3) = true := by simpa using hk.1
  have z4 : (y.kind != 4) = true := by simpa using hk.2
  clear hk
  go_enter Tryd.func18, Tryd.ntmps18
  go_upto_region 1 with fail
  generalize w.alloc (.cells #[.int .i64 x.kind, .int .i64 x.int, .string x.str, .int .i64 x.ref] 36) = w1 at *
  generalize hb1 : w.heap.size = b1 at *
  have HB1 := Lib.hid hb1
  clear hb1
  have k0 := cell_of_block (i := 0) HKB.out rfl
  have k1 := cell_of_block (i := 1) HKB.out rfl
  have k2 := cell_of_block (i := 2) HKB.out rfl
  have k3 := cell_of_block (i := 3) HKB.out rfl
  simp only [List.getElem_toArray, List.getElem_cons_zero, List.getElem_cons_succ] at k0 k1 k2 k3
  go_upto_region 2 with (go_at_call 37; refine (HNN.out _ HCA.out).mono ?_; rintro e wn ⟨rfl, hcn⟩; have hbn := hcn.keep HKB.out (fun x => x); obtain ⟨z10, q0, z11, q1, z12, q2, z13, q3, hbf, hcs⟩ := store4 hbn (.int .i64 y.kind) (.int .i64 y.int) (.string y.str) (.int .i64 y.ref))
  have HC4 := Lib.hid (show Chg (fun _ => False) w (((((wn.setCell ⟨b1, 0, none⟩ (.int .i64 y.kind)).setCell ⟨b1, 1, none⟩ (.int .i64 y.int)).setCell ⟨b1, 2, none⟩ (.string y.str)).setCell ⟨b1, 3, none⟩ (.int .i64 y.ref))) from (HCA.out.trans' hcn).trans hcs (fun _ _ x => x) (fun k hk e => by have := HB1.out; omega))
  clear hcs hcn hbn z10 q0 z11 q1 z12 q2 z13 q3 k0 k1 k2 k3
  generalize ((((wn.setCell ⟨b1, 0, none⟩ (.int .i64 y.kind)).setCell ⟨b1, 1, none⟩ (.int .i64 y.int)).setCell ⟨b1, 2, none⟩ (.string y.str)).setCell ⟨b1, 3, none⟩ (.int .i64 y.ref)) = w4 at *
  have n0 := cell_of_block (i := 0) hbf rfl
  have n1 := cell_of_block (i := 1) hbf rfl
  have n2 := cell_of_block (i := 2) hbf rfl
  have n3 := cell_of_block (i := 3) hbf rfl
  simp only [List.getElem_toArray, List.getElem_cons_zero, List.getElem_cons_succ] at n0 n1 n2 n3
  clear hbf HKB HCA HNN HB1
  go_wp2_with fail
  go_ret2
  exact ⟨rfl, HC4.out⟩
end Go.Proofs.YtjianickjahdnaaDoor
namespace Go.Proofs.YtjianickjahdnaaDoor
open Go Go.Proofs Go.Shelf Go.RowKit
set_option linter.unusedVariables false
set_option linter.unusedSimpArgs false

def sh_lays242_ren : Go.Shelf.Ren := ⟨fun | 242 => 63 | 278 => 70 | n => n, fun | 37 => 68 | 21 => 21 | 51 => 125 | 4 => 4 | 5 => 5 | 46 => 117 | 72 => 95 | 70 => 93 | n => n, fun | n => n⟩
theorem sh_lays242 : Go.Proofs.Lays.n242 Tryd.prog sh_lays242_ren := {
  mixed := by kernel_rfl
  f242 := Tryd.func63.trans (congrArg some (by kernel_rfl))
  f278 := Tryd.func70.trans (congrArg some (by kernel_rfl))
  t4 := Tryd.underlying4
  a4 := Tryd.isAgg4
  z4 := Tryd.sizeOf4
  v4 := Tryd.zeroValue4
  t5 := Tryd.underlying5
  a5 := Tryd.isAgg5
  z5 := Tryd.sizeOf5
  v5 := Tryd.zeroValue5
  t21 := Tryd.underlying21
  a21 := Tryd.isAgg21
  z21 := Tryd.sizeOf21
  v21 := Tryd.zeroValue21
  t37 := Tryd.underlying68
  a37 := Tryd.isAgg68
  z37 := Tryd.sizeOf68
  v37 := Tryd.zeroValue68
  t46 := Tryd.underlying117
  a46 := Tryd.isAgg117
  z46 := Tryd.sizeOf117
  v46 := Tryd.zeroValue117
  t51 := Tryd.underlying125
  a51 := Tryd.isAgg125
  z51 := Tryd.sizeOf125
  v51 := Tryd.zeroValue125 }
theorem sh_Builder_Extra_242 : Builder.Extra Tryd.prog sh_lays242_ren := {
  sizeBuilder := by kernel_rfl
  liesBuilder := by kernel_rfl
  t5 := Tryd.underlying5
  a5 := Tryd.isAgg5
  z5 := Tryd.sizeOf5
  v5 := Tryd.zeroValue5
  infoByte := by kernel_rfl
  cellsByte := by kernel_rfl
  sizeByte := by kernel_rfl
  neB5 := by decide }
theorem appendRune_own (B : Nat) (v : Value) (n : Nat) (xs : List Value) (r : Int) (hr0 : -2147483648 ≤ r) (hr1 : r ≤ 2147483647) (w : World) (hown : w.ownsRowF B 5 1 v n xs) (hlen : n + 4 ≤ 140737488355328) (hBw : B ≤ w.heap.size) :
    Calls Tryd.prog 63 #[v, .int .i32 r] w fun e w' => ∃ v', e = .returned v' ∧ w'.ownsRowF B 5 1 v' (n + (Lib.runeCells r).length) (xs ++ Lib.runeCells r) ∧ ∃ o, (w.alloc o).grownBy w' v.ownBlock :=
  Any.utf8_AppendRune_own sh_lays242 sh_Builder_Extra_242 B v n xs r hr0 hr1 w hown hlen hBw
theorem sh_valid (s : ByteArray) (w : World) (hs : s.size ≤ 9223372036854775807) (hT : Lib.Utf8Tabs 0 1 w) :
    Calls Tryd.prog 47 #[.string s] w fun e w' => e = .returned (.bool (Lib.validD s.data.toList)) ∧ Below w.heap.size w w' :=
  Any.utf8_ValidString sh_lays196 s w hs hT
set_option maxHeartbeats 1000000 in
set_option maxRecDepth 100000 in
theorem copyCheck_used (b : Nat) (w : World) (h0 : w.cell? ⟨b, 0, none⟩ = some (.pointer (some ⟨b, 0, none⟩))) :
    Calls Tryd.prog 62 #[.pointer (some ⟨b, 0, none⟩)] w fun e w' => e = .returned (.tuple #[]) ∧ w' = w := by
  obtain ⟨j, hj, hjs⟩ := Option.map_eq_some_iff.1 sh_Builder_Extra_242.sizeBuilder
  go_enter Tryd.func62, Tryd.ntmps62
  go_wp2_with fail
  rw [Lib.run_neq_ptr_same w _ Tryd.underlying93 hj]
  go_wp2_with fail
  go_end0
  exact ⟨rfl, rfl⟩
set_option maxHeartbeats 1000000 in
set_option maxRecDepth 100000 in
theorem copyCheck_fresh (b : Nat) (w : World) (h0 : w.cell? ⟨b, 0, none⟩ = some (.pointer none)) (hsh : w.shape? b = some (95, 2)) (hfz : w.frozen? ⟨b, 0, none⟩ = false) :
    Calls Tryd.prog 62 #[.pointer (some ⟨b, 0, none⟩)] w fun e w' => e = .returned (.tuple #[]) ∧ w' = w.setCell ⟨b, 0, none⟩ (.pointer (some ⟨b, 0, none⟩)) := by
  obtain ⟨j, hj, hjs⟩ := Option.map_eq_some_iff.1 sh_Builder_Extra_242.sizeBuilder
  go_enter Tryd.func62, Tryd.ntmps62
  go_wp2_with fail
  rw [Lib.run_to_unsafe w ⟨b, 0, none⟩ Tryd.underlying93 Tryd.underlying123 hj (by rw [hjs]; decide) hsh (Nat.zero_lt_succ 1)]
  simp only [Result.andThen]
  rw [Oper.upon_value]
  go_wp2_with fail
  rw [run_callFunc_extern Tryd.func69 (by kernel_rfl) (by kernel_rfl) (by kernel_rfl) (e := Extern.AbiNoEscape.same) (by kernel_rfl)]
  rw [Lib.run_noEscape]
  simp only [Result.andThen]
  rw [Oper.upon_value]
  go_wp2_with fail
  rw [Lib.run_from_unsafe w ⟨b, 0, none⟩ Tryd.underlying123 Tryd.underlying93 hj hsh sh_Builder_Extra_242.liesBuilder]
  simp only [Result.andThen]
  rw [Oper.upon_value]
  go_wp2_with fail
  go_end0
  exact ⟨rfl, rfl⟩
theorem copyCheck_k (B b : Nat) (bs : List Value) (w : World) (h : Lib.IsBuilderF 95 5 B b bs w) :
    Calls Tryd.prog 62 #[.pointer (some ⟨b, 0, none⟩)] w fun e w' => e = .returned (.tuple #[]) ∧ (Lib.BuilderAtF 95 5 B b (.pointer (some ⟨b, 0, none⟩)) bs w' ∧ Below B w w' ∧ Lib.OthersKept 5 (some b) w w') := by
  rcases h with h | h
  · refine (copyCheck_fresh b w h.cell0 h.shape h.frozen0).mono ?_
    rintro e w' ⟨rfl, rfl⟩
    exact ⟨rfl, h.used _, (Below.refl B w).setCell (p := ⟨b, 0, none⟩) h.1 _, (Lib.OthersKept.refl _ _ w).setCell ⟨b, 0, none⟩ rfl _⟩
  · refine (copyCheck_used b w h.cell0).mono ?_
    rintro e w' ⟨rfl, rfl⟩
    exact ⟨rfl, h, Below.refl B _, Lib.OthersKept.refl _ _ _⟩
set_option maxHeartbeats 4000000 in
set_option maxRecDepth 100000 in
theorem writeRune_k (B b : Nat) (bs : List Value) (r : Int) (hr0 : -2147483648 ≤ r) (hr1 : r ≤ 2147483647) (w : World) (h : Lib.IsBuilderF 95 5 B b bs w) (hlen : bs.length + 4 ≤ 140737488355328) (hBw : B ≤ w.heap.size) :
    Calls Tryd.prog 48 #[.pointer (some ⟨b, 0, none⟩), .int .i32 r] w fun e w' => e = .returned (.tuple #[.int .i64 (Lib.runeCells r).length, .nilIface]) ∧ (Lib.BuilderAtF 95 5 B b (.pointer (some ⟨b, 0, none⟩)) (bs ++ Lib.runeCells r) w' ∧ Below B w w' ∧ Lib.OthersKept 5 (some b) w w') := by
  have hk4 := Lib.runeCells_le r
  go_enter Tryd.func48, Tryd.ntmps48
  go_wp2_with (go_at_call 62; refine (copyCheck_k B b bs _ h).mono ?_)
  rintro e w1 ⟨rfl, h1, hb1, hk1⟩
  obtain ⟨hB, v, hbk, hown, hne⟩ := h1
  obtain ⟨ao, cap, rfl⟩ : ∃ ao cap, v = .slice ao bs.length cap := by
    rcases hown.2 with ⟨hv, h0⟩ | ⟨g, cap, cur, fz, hv, _⟩
    · exact ⟨none, 0, by rw [hv, h0]⟩
    · exact ⟨_, _, hv⟩
  have c0 : w1.cell? ⟨b, 0, none⟩ = some (.pointer (some ⟨b, 0, none⟩)) := by rw [Lib.cell_of_heap hbk]; rfl
  have c1 : w1.cell? ⟨b, 1, none⟩ = some (.slice ao bs.length cap) := by rw [Lib.cell_of_heap hbk]; rfl
  go_wp2_with (go_at_call 63; refine (appendRune_own B _ bs.length bs r hr0 hr1 _ hown hlen (by have := hb1.size; omega)).mono ?_)
  rintro e w2 ⟨v', rfl, hown', o, hgrow⟩
  have hlt : b < w1.heap.size := by
    rcases Nat.lt_or_ge b w1.heap.size with h' | h'
    · exact h'
    · simp [Array.getElem?_eq_none h'] at hbk
  have hb2 : w2.heap[b]? = some (.cells #[.pointer (some ⟨b, 0, none⟩), .slice ao bs.length cap] 95 (0, 0)) := by
    rw [hgrow.block b (by simp; omega) (fun e => hne e.symm), Lib.alloc_old w1 _ b hlt]
    exact hbk
  have d0 : w2.cell? ⟨b, 0, none⟩ = some (.pointer (some ⟨b, 0, none⟩)) := by rw [Lib.cell_of_heap hb2]; rfl
  have d1 : w2.cell? ⟨b, 1, none⟩ = some (.slice ao bs.length cap) := by rw [Lib.cell_of_heap hb2]; rfl
  have f1 : w2.frozen? ⟨b, 1, none⟩ = false := Lib.frozen_of_heap hb2 1
  obtain ⟨g, cap', rfl⟩ : ∃ g cap', v' = .slice (some ⟨g, 0, none⟩) (bs.length + (Lib.runeCells r).length) cap' := by
    rcases hown'.2 with ⟨_, h0⟩ | ⟨g, cap', cur, fz, hv, _⟩
    · omega
    · exact ⟨g, cap', hv⟩
  go_wp2_with fail
  go_ret2
  refine ⟨?_, ?_, ?_, ((hk1.alloc _).grown hgrow (Lib.ownsRowF_kind (hown.alloc _))).setCell ⟨b, 1, none⟩ rfl _⟩
  · have e : ((bs.length : Int) + ((Lib.runeCells r).length : Int) - (bs.length : Int)) = ((Lib.runeCells r).length : Int) := by omega
    simp [e]
  · exact Lib.BuilderAtF.put (T := 95) (e := 5) hB hb2 (bs' := bs ++ Lib.runeCells r) (by simpa using hown') sh_Builder_Extra_242.neB5
  · exact ((hb1.alloc (by have := hb1.size; omega) _).grown hgrow (by have := hb1.size; simp; omega) (fun k hk => (hown.lt k hk).1)).setCell (p := ⟨b, 1, none⟩) hB _
end Go.Proofs.YtjianickjahdnaaDoor
namespace Go.Proofs.YtjianickjahdnaaDoor
open Go.RowKit
set_option linter.unusedVariables false
set_option linter.unusedSimpArgs false

/-- The runes from a place on, written anew. -/
def repFrom (s : ByteArray) : Nat → Nat → List UInt8
  | 0, _ => []
  | fuel + 1, pos => if pos < s.size then Lib.encodeRune (Utf8.decode s pos).1 ++ repFrom s fuel (pos + (Utf8.decode s pos).2) else []
def repB (s : ByteArray) : List UInt8 := repFrom s s.size 0
def repairM (s : ByteArray) : ByteArray := if Lib.validD s.data.toList = true then s else ⟨(repB s).toArray⟩
theorem width_pos (s : ByteArray) (pos : Nat) (h : pos < s.size) : 1 ≤ (Utf8.decode s pos).2 := by
  by_cases ha : (s[pos]'h).toNat < 128
  · rw [decode_ascii s pos h ha]
    exact Nat.le_refl _
  · exact (decode_high s pos h (by omega)).2
theorem repFrom_end (s : ByteArray) (fuel pos : Nat) (h : ¬ pos < s.size) : repFrom s fuel pos = [] := by
  cases fuel with
  | zero => rfl
  | succ f => simp [repFrom, h]
set_option maxHeartbeats 4000000 in
set_option maxRecDepth 1000000 in
theorem repair_any (s : ByteArray) (w : World) (hs : s.size ≤ 35184372088832) (hT : Lib.Utf8Tabs 0 1 w) :
    Calls Tryd.prog 33 #[.string s] w fun e w' => e = .returned (.string (repairM s)) ∧ Chg (fun _ => False) w w' := by
  have HV := Lib.hid (sh_valid s w (by omega) hT)
  clear hT
  by_cases hv : Lib.validD s.data.toList = true
  · have hr : repairM s = s := if_pos hv
    rw [hr]
    rw [hv] at HV
    clear hv hr
    go_enter Tryd.func33, Tryd.ntmps33
    go_wp2_with (go_at_call 47; refine HV.out.mono ?_; rintro e w1 ⟨rfl, hb1⟩)
    go_ret
    exact ⟨rfl, chg_of_below hb1⟩
  · have hr : repairM s = ⟨(repB s).toArray⟩ := if_neg hv
    rw [hr]
    rw [Bool.not_eq_true] at hv
    rw [hv] at HV
    clear hv hr
    go_enter Tryd.func33, Tryd.ntmps33
    go_upto_region 4 with (go_at_call 47; refine HV.out.mono ?_; rintro e w1 ⟨rfl, hb1⟩)
    have HC1 := Lib.hid (chg_of_below hb1)
    clear hb1 HV
    go_wp2_with fail
    go_loopw [5] (fun _ wr => ∃ (pos fuel : Nat) (acc : List UInt8), Lib.IsBuilderF 95 5 w1.heap.size w1.heap.size (Lib.byteCells acc) wr ∧ wr.heap[w1.heap.size + 1]? = some (.stringIter s pos) ∧ Below w1.heap.size w1 wr ∧ acc ++ repFrom s fuel pos = repB s ∧ s.size ≤ pos + fuel ∧ acc.length ≤ 4 * pos) (fun _ wr => s.size - wr.iterPos (w1.heap.size + 1))
    case atStart =>
      refine ⟨0, s.size, [], (Lib.IsBuilderF.of (Lib.fresh_isBuilder 95 5 w1)).alloc _, ?_, ((Below.refl _ w1).alloc (Nat.le_refl _) _).alloc (by simp) _, rfl, by omega, by simp⟩
      have := World.iter_heap (w1.alloc (.cells #[.pointer none, .slice none 0 0] 95)) s 0
      simpa using this
    case round =>
      obtain ⟨pos, fuel, acc, hI, hit, hbw, hacc, hfu, hal⟩ := hrel
      have hsz : w1.heap.size + 1 < wr.heap.size := (Array.getElem?_eq_some_iff.1 hit).1
      by_cases hp : pos < s.size
      · have hnx : ∀ ty, (Instr.next (.pointer (some ⟨w1.heap.size + 1, 0, none⟩)) true ty).run Tryd.prog wr = _ := fun ty => Lib.run_next_any_at wr (w1.heap.size + 1) s pos ty hit hp
        have hwd := width_pos s pos hp
        have hd1 := decode_le s pos
        have hI2 := hI.iterAt hit (pos + (Utf8.decode s pos).2)
        have hit2 := Lib.iterAt_heap wr (w1.heap.size + 1) s pos (pos + (Utf8.decode s pos).2) hit
        have hbw2 := Lib.below_iterAt hbw (k := w1.heap.size + 1) (by omega) s (pos + (Utf8.decode s pos).2)
        have hsz2 : w1.heap.size ≤ (wr.iterAt (w1.heap.size + 1) s (pos + (Utf8.decode s pos).2)).heap.size := by rw [Lib.iterAt_size]; omega
        obtain ⟨f, rfl⟩ : ∃ f, fuel = f + 1 := ⟨fuel - 1, by omega⟩
        go_wp2_with (go_at_call 48; refine (writeRune_k w1.heap.size w1.heap.size _ _ (by omega) (by omega) _ hI2 (by rw [Lib.byteCells_length]; omega) hsz2).mono ?_)
        rintro e W1 ⟨rfl, h1, b1, k1⟩
        go_wp2_with fail
        go_roundw
        case rel =>
          have hl4 := Lib.runeCells_le ((Utf8.decode s pos).1 : Int)
          rw [Lib.runeCells_length] at hl4
          refine ⟨pos + (Utf8.decode s pos).2, f, acc ++ Lib.encodeRune (Utf8.decode s pos).1, ?_, k1.iter hit2 (by omega), hbw2.trans b1, ?_, by omega, by simp; omega⟩
          · rw [Lib.byteCells_append, Lib.byteCells_encodeRune]; exact Or.inr h1
          · rw [← hacc]; simp [repFrom, hp]
        case measure =>
          simp only [World.iterPos, k1.iter hit2 (by omega), hit]
          omega
      · have hnx : ∀ ty, (Instr.next (.pointer (some ⟨w1.heap.size + 1, 0, none⟩)) true ty).run Tryd.prog wr = _ := fun ty => Lib.run_next_end_at wr (w1.heap.size + 1) s pos ty hit hp
        go_wp2_with (go_at_call 49; refine (sh_Builder_String_any_k w1.heap.size w1.heap.size acc _ hI (by omega)).mono ?_)
        rintro e W1 ⟨rfl, _, b1, _⟩
        go_wp2_with fail
        go_ret
        rw [repFrom_end s fuel pos hp, List.append_nil] at hacc
        subst hacc
        exact ⟨rfl, HC1.out.trans' (chg_of_below (hbw.trans b1))⟩
end Go.Proofs.YtjianickjahdnaaDoor
namespace Go.Proofs.YtjianickjahdnaaDoor
open Go.RowKit
set_option linter.unusedVariables false
set_option linter.unusedSimpArgs false

set_option maxHeartbeats 3200000 in
set_option maxRecDepth 100000 in
theorem make_any (w : World) (b : Nat) (hp : Hp) (F : List Nat) (k : Nat) (H : Here hpR w b 0 hp F) (hfree : hp.free = []) (hlive : hp.live = hp.slots.length) (hl : hp.slots.length < 100000) (hp12 : hp.protos.length = 12) (hk : k < 12) :
    Calls Tryd.prog 11 #[.pointer (some ⟨b, 0, none⟩), .int .i64 (k : Int)] w
      fun e w' => e = .returned (.tuple #[.int .i64 (handleM hp.base hp.stride hp.slots.length), .int .i64 0]) ∧ Added w b 0 (addedM hp ⟨true, newObj k (hp.protos.getD k 0)⟩) F w' := by
  have HL := Lib.hid (len_any w b 0 hp F H)
  obtain ⟨g, off, cap, c7, hset⟩ := protoSet H (by omega)
  obtain ⟨q1, -, -⟩ := hset k (by omega)
  have hgd : hp.protos.getD k 0 = hp.protos[k]'(by omega) := by rw [List.getD_eq_getElem?_getD, List.getElem?_eq_getElem (by omega)]; rfl
  rw [← hgd] at q1
  rw [hp12, Nat.zero_add] at c7
  generalize hp.protos.getD k 0 = pr at *
  have h0 : (0 : Int) ≤ (k : Int) := by omega
  have h1 : (k : Int) < 12 := by omega
  have h2 : ¬ ((12 : Int) ≤ (k : Int)) := by omega
  have h3 : ¬ (100000 : Int) ≤ hp.live := by omega
  have C7 := Lib.hid c7
  have Q1 := Lib.hid q1
  have HH := Lib.hid H
  have HFR := Lib.hid hfree
  have HLV := Lib.hid hlive
  have HSL := Lib.hid hl
  clear hset hgd H hfree hlive hl hp12 hk
  go_enter Tryd.func11, Tryd.ntmps11
  go_upto_region 5 with (go_at_call 16; refine HL.out.mono ?_; rintro e w2 ⟨rfl, rfl⟩)
  have hc := Chg.alloc (fun _ => False) w2 (.cells #[.int .i64 (k : Int), .int .i64 0, .slice none 0 0, .slice none 0 0, .slice none 0 0, .int .i64 0, .int .i64 0, .int .i64 0, .int .i64 0, .slice none 0 0] 47)
  have d7 := hc.cell C7.out
  have d1 := hc.cell Q1.out
  clear c7 q1
  go_upto_region 8 with fail
  have hb : (w2.alloc (.cells #[.int .i64 (k : Int), .int .i64 pr, .slice none 0 0, .slice none 0 0, .slice none 0 0, .int .i64 0, .int .i64 0, .int .i64 0, .int .i64 0, .slice none 0 0] 47)).heap[w2.heap.size]? = some (.cells #[.int .i64 (k : Int), .int .i64 pr, .slice none 0 0, .slice none 0 0, .slice none 0 0, .int .i64 0, .int .i64 0, .int .i64 0, .int .i64 0, .slice none 0 0] 47 (0, 0)) := alloc_block _ _
  have hcW : Chg (fun _ => False) w2 (w2.alloc (.cells #[.int .i64 (k : Int), .int .i64 pr, .slice none 0 0, .slice none 0 0, .slice none 0 0, .int .i64 0, .int .i64 0, .int .i64 0, .int .i64 0, .slice none 0 0] 47)) := Chg.alloc _ _ _
  have HCW := Lib.hid hcW
  clear hc d7 d1 hcW
  generalize w2.alloc (.cells #[.int .i64 (k : Int), .int .i64 pr, .slice none 0 0, .slice none 0 0, .slice none 0 0, .int .i64 0, .int .i64 0, .int .i64 0, .int .i64 0, .slice none 0 0] 47) = W3 at *
  generalize w2.heap.size = nb at *
  have m0 : W3.cell? ⟨nb, 0, none⟩ = some (.int .i64 (k : Int)) := cell_of_block hb rfl
  have m1 : W3.cell? ⟨nb, 1, none⟩ = some (.int .i64 pr) := cell_of_block hb rfl
  have m2 : W3.cell? ⟨nb, 2, none⟩ = some (.slice none 0 0) := cell_of_block hb rfl
  have m3 : W3.cell? ⟨nb, 3, none⟩ = some (.slice none 0 0) := cell_of_block hb rfl
  have m4 : W3.cell? ⟨nb, 4, none⟩ = some (.slice none 0 0) := cell_of_block hb rfl
  have m5 : W3.cell? ⟨nb, 5, none⟩ = some (.int .i64 0) := cell_of_block hb rfl
  have m6 : W3.cell? ⟨nb, 6, none⟩ = some (.int .i64 0) := cell_of_block hb rfl
  have m7 : W3.cell? ⟨nb, 7, none⟩ = some (.int .i64 0) := cell_of_block hb rfl
  have m8 : W3.cell? ⟨nb, 8, none⟩ = some (.int .i64 0) := cell_of_block hb rfl
  have m9 : W3.cell? ⟨nb, 9, none⟩ = some (.slice none 0 0) := cell_of_block hb rfl
  have HC := Lib.hid (add_any W3.drew b 0 hp F k pr (HH.out.still (HCW.out.drewR)) HFR.out ⟨by have := HSL.out; omega⟩ HLV.out)
  clear hb
  go_region_law (go_simp; go_at_call 31; refine HC.out.mono ?_; rintro e w4 ⟨rfl, hA⟩)
  all_goals (
    go_wp2_with fail
    go_ret2
    exact ⟨rfl, ⟨Post.pre (HCW.out.drewR) hA.post, fun j u hj hu => hA.rest j u hj ((HCW.out.drewR).cell hu)⟩⟩)
end Go.Proofs.YtjianickjahdnaaDoor
namespace Go.Proofs.YtjianickjahdnaaDoor
open Go.RowKit
set_option linter.unusedVariables false
set_option linter.unusedSimpArgs false

section
variable {α : Type} {A : Rep α} {w W W' : World} {b o : Nat} {a : α} {F : List Nat}
theorem Own.beside {S : Nat → Prop} (h : Own A w W b o a F) (hc : Chg S W W') (hd : ∀ k ∈ b :: F, ¬ S k) (hlo : ∀ k, S k → w.heap.size ≤ k) : Own A w W' b o a F :=
  ⟨h.here.chg hc (hd b (List.mem_cons_self ..)) (fun k hk => hd k (List.mem_cons_of_mem _ hk)), h.chg.trans hc (fun _ _ x => x) (fun i hi x => by have := hlo i x; omega), h.lo, h.los⟩
theorem Own.allLt (h : Own A w W b o a F) : ∀ k ∈ b :: F, k < W.heap.size := fun k hk => by
  rcases List.mem_cons.1 hk with rfl | hk
  · exact h.here.lt.1
  · exact h.here.lt.2 k hk
theorem Own.allLo (h : Own A w W b o a F) : ∀ k ∈ b :: F, w.heap.size ≤ k := fun k hk => by
  rcases List.mem_cons.1 hk with rfl | hk
  · exact h.lo
  · exact h.los k hk
end
theorem apart_grow {b N : Nat} {F F' X : List Nat} (h : ∀ k ∈ b :: F, k ∉ X) (hn : ∀ k ∈ F', k ∈ F ∨ N ≤ k) (hx : ∀ k ∈ X, k < N) : ∀ k ∈ b :: F', k ∉ X := fun k hk x => by
  rcases List.mem_cons.1 hk with rfl | hk
  · exact h _ (List.mem_cons_self ..) x
  · rcases hn k hk with y | y
    · exact h k (List.mem_cons_of_mem _ y) x
    · have := hx k x; omega
structure HL (w W : World) (bh : Nat) (hp : Hp) (v : Value) (L : List Int) (F : List Nat) : Prop where
  heap : Own hpR w W bh 0 hp F
  li : OutI w W v L
  d : ∀ k ∈ bh :: F, k ∉ ownL v
section
variable {w W W' : World} {bh : Nat} {hp hp' : Hp} {v v' : Value} {L L' : List Int} {F : List Nat}
theorem HL.still (h : HL w W bh hp v L F) (hc : Chg (fun _ => False) W W') : HL w W' bh hp v L F := ⟨h.heap.still hc, h.li.still hc, h.d⟩
theorem HL.heapS (h : HL w W bh hp v L F) (hp1 : Post hpR W bh 0 hp' F W') : ∃ F', HL w W' bh hp' v L F' := by
  obtain ⟨F', h1, h2⟩ := hp1
  have hS : ∀ k, (k = bh ∨ k ∈ F) → k ∈ bh :: F := fun k x => x.elim (fun e => e ▸ List.mem_cons_self ..) (List.mem_cons_of_mem _)
  have hlo : ∀ k, (k = bh ∨ k ∈ F) → w.heap.size ≤ k := fun k x => h.heap.allLo k (hS k x)
  exact ⟨F', h.heap.step h1 h2, h.li.other h2.chg (fun k hk x => h.d k (hS k x) (mem_ownL.2 hk)) (fun k hk x => by have := hlo k x; omega),
    apart_grow h.d h2.new (fun k hk => h.li.row.lt k (mem_ownL.1 hk))⟩
theorem HL.liS (h : HL w W bh hp v L F) (hc : Chg (fun k => v.ownBlock = some k) W W') (ho : OutI w W' v' L') (hold : ∀ k, v'.ownBlock = some k → v.ownBlock = some k ∨ W.heap.size ≤ k) : HL w W' bh hp v' L' F :=
  ⟨h.heap.beside hc (fun k hk x => h.d k hk (mem_ownL.2 x)) h.li.lo, ho, fun k hk x => by
    rcases hold k (mem_ownL.1 x) with y | y
    · exact h.d k hk (mem_ownL.2 y)
    · have := h.heap.allLt k hk; omega⟩
theorem HL.of (h : Own hpR w W bh 0 hp F) : HL w W bh hp (.slice none 0 0) [] F :=
  ⟨h, ⟨RowAt.nil _ _ _, fun k hk => by simp [Value.ownBlock] at hk, h.chg⟩, fun k hk x => by simp [ownL, Value.ownBlock] at x⟩
end
end Go.Proofs.YtjianickjahdnaaDoor
namespace Go.Proofs.YtjianickjahdnaaDoor
open Go.RowKit
set_option linter.unusedVariables false
set_option linter.unusedSimpArgs false

/-- Four cells of a block stored one after the other. -/
theorem store4At {w : World} {g T o : Nat} {c : Array Value} (b0 : w.heap[g]? = some (.cells c T (0, 0))) (hc : o + 4 ≤ c.size) (v0 v1 v2 v3 : Value) : ∃ u0 u1 u2 u3,
    (w.cell? ⟨g, o, none⟩ = some u0 ∧ w.frozen? ⟨g, o, none⟩ = false) ∧
    ((w.setCell ⟨g, o, none⟩ v0).cell? ⟨g, o + 1, none⟩ = some u1 ∧ (w.setCell ⟨g, o, none⟩ v0).frozen? ⟨g, o + 1, none⟩ = false) ∧
    (((w.setCell ⟨g, o, none⟩ v0).setCell ⟨g, o + 1, none⟩ v1).cell? ⟨g, o + 2, none⟩ = some u2 ∧ ((w.setCell ⟨g, o, none⟩ v0).setCell ⟨g, o + 1, none⟩ v1).frozen? ⟨g, o + 2, none⟩ = false) ∧
    ((((w.setCell ⟨g, o, none⟩ v0).setCell ⟨g, o + 1, none⟩ v1).setCell ⟨g, o + 2, none⟩ v2).cell? ⟨g, o + 3, none⟩ = some u3 ∧ (((w.setCell ⟨g, o, none⟩ v0).setCell ⟨g, o + 1, none⟩ v1).setCell ⟨g, o + 2, none⟩ v2).frozen? ⟨g, o + 3, none⟩ = false) := by
  have b1 := setCell_block (i := o) v0 b0
  have b2 := setCell_block (i := o + 1) v1 b1
  have b3 := setCell_block (i := o + 2) v2 b2
  have get : ∀ (d : Array Value) (k : Nat), k < d.size → d[k]? = some d[k]! := fun d k hk => by
    rw [Array.getElem?_eq_getElem hk]; simp [hk]
  exact ⟨_, _, _, _, ⟨cell_of_block b0 (get _ _ (by omega)), frozen_of_block b0⟩, ⟨cell_of_block b1 (get _ _ (by simp; omega)), frozen_of_block b1⟩, ⟨cell_of_block b2 (get _ _ (by simp; omega)), frozen_of_block b2⟩, ⟨cell_of_block b3 (get _ _ (by simp; omega)), frozen_of_block b3⟩⟩
set_option maxHeartbeats 6400000 in
set_option maxRecDepth 100000 in
theorem put_new (w : World) (b : Nat) (hp : Hp) (F : List Nat) (h : Int) (i : Nat) (key : ByteArray) (x y : Val) (H : Here hpR w b 0 hp F) (hi : -9223372036854775808 ≤ h ∧ h ≤ 9223372036854775807) (hs : slotOf hp h = some i) (hl : i < hp.slots.length) (hk : hp.slots[i].obj.kind ≠ 1)
    (HN : ∀ W, Chg (fun _ => False) w W → Calls Tryd.prog 37 #[.agg #[.int .i64 x.kind, .int .i64 x.int, .string x.str, .int .i64 x.ref]] W fun e w' => e = .returned (.agg #[.int .i64 y.kind, .int .i64 y.int, .string y.str, .int .i64 y.ref]) ∧ Chg (fun _ => False) W w') (hf : findP key hp.slots[i].obj.props 0 = none) (hlp : hp.slots[i].obj.props.length < 10000) :
    Calls Tryd.prog 24 #[.pointer (some ⟨b, 0, none⟩), .int .i64 h, .string key, .agg #[.int .i64 x.kind, .int .i64 x.int, .string x.str, .int .i64 x.ref]] w fun e w' => e = .returned (.int .i64 0) ∧ Post hpR w b 0 (putO hp i { hp.slots[i].obj with props := hp.slots[i].obj.props ++ [⟨key, y.kind, y.int, y.str, y.ref⟩] }) F w' := by
  have hca := Chg.alloc (fun _ => False) w (.cells #[.int .i64 x.kind, .int .i64 x.int, .string x.str, .int .i64 x.ref] 36)
  have kb := alloc_block w (.cells #[.int .i64 x.kind, .int .i64 x.int, .string x.str, .int .i64 x.ref] 36)
  have HKB := Lib.hid kb
  have H2 := H.still hca
  obtain ⟨gh, oh, kh, c2, G, HOBJ0, hGF, hput⟩ := hpPut H hl
  obtain ⟨vp, ve, vd, vs, HOC⟩ := objOpen HOBJ0
  obtain ⟨p, cap, rfl, -⟩ := HOC.rp.slice
  have hrlt := HOC.rp.lt
  have c0 := HOC.c0
  have z1 : (hp.slots[i].obj.kind == 1) = false := beq_false_of_ne hk
  have hat := hat_any _ b 0 hp F h _ H2 (by rw [Nat.zero_add]; exact hca.cell c2) hi
  rw [hs, show objPtr (.slice (some ⟨gh, oh, none⟩) hp.slots.length kh) (some i) = some ⟨gh, oh + i * 11 + 1, none⟩ from rfl] at hat
  have HAT := Lib.hid hat
  have HNN := Lib.hid HN
  have HC2 := Lib.hid HOC.c2
  have HRP := Lib.hid HOC.rp
  generalize hx : hp.slots[i].obj = o_ at *
  have HX := Lib.hid hx
  have HC0 := Lib.hid c0
  have HCA := Lib.hid hca
  have HOB := Lib.hid HOBJ0
  have HPT := Lib.hid hput
  have HRLT := Lib.hid hrlt
  have HBS : Hid (∀ k ∈ G, k < w.heap.size) := Lib.hid (fun k hk => H.lt.2 k (hGF k hk))
  clear kb hca H2 c2 HOBJ0 hrlt hGF hput HOC c0 hi hs H hx hk hat HN
  go_enter Tryd.func24, Tryd.ntmps24
  go_upto_region 1 with fail
  generalize hw2 : w.alloc (.cells #[.int .i64 x.kind, .int .i64 x.int, .string x.str, .int .i64 x.ref] 36) = w1 at *
  generalize hb7 : w.heap.size = b7 at *
  have HB7E := Lib.hid hb7
  clear hw2 hb7
  go_upto_region 4 with (go_at_call 35; refine HAT.out.mono ?_; rintro e wa ⟨rfl, hca⟩)
  have HC1 := Lib.hid (HCA.out.trans' hca)
  have HKB2 := Lib.hid (hca.keep HKB.out (fun x => x))
  have k0 := cell_of_block (i := 0) HKB2.out rfl
  have k1 := cell_of_block (i := 1) HKB2.out rfl
  have k2 := cell_of_block (i := 2) HKB2.out rfl
  have k3 := cell_of_block (i := 3) HKB2.out rfl
  simp only [List.getElem_toArray, List.getElem_cons_zero, List.getElem_cons_succ] at k0 k1 k2 k3
  clear hca HAT HKB
  go_upto_region 5 with (go_at_call 37; refine (HNN.out _ HC1.out).mono ?_; rintro e wn ⟨rfl, hcn⟩; have hbn := hcn.keep HKB2.out (fun x => x); obtain ⟨z10, q0, z11, q1, z12, q2, z13, q3, hbf, hcs⟩ := store4 hbn (.int .i64 y.kind) (.int .i64 y.int) (.string y.str) (.int .i64 y.ref))
  have HB7 := Lib.hid hbf
  have hc4 : Chg (fun _ => False) w (((((wn.setCell ⟨b7, 0, none⟩ (.int .i64 y.kind)).setCell ⟨b7, 1, none⟩ (.int .i64 y.int)).setCell ⟨b7, 2, none⟩ (.string y.str)).setCell ⟨b7, 3, none⟩ (.int .i64 y.ref))) := (HC1.out.trans' hcn).trans hcs (fun _ _ x => x) (fun k hk e => by have := HB7E.out; omega)
  clear hbf hcs hcn hbn z10 q0 z11 q1 z12 q2 z13 q3 k0 k1 k2 k3
  generalize ((((wn.setCell ⟨b7, 0, none⟩ (.int .i64 y.kind)).setCell ⟨b7, 1, none⟩ (.int .i64 y.int)).setCell ⟨b7, 2, none⟩ (.string y.str)).setCell ⟨b7, 3, none⟩ (.int .i64 y.ref)) = w4 at *
  have c0 := hc4.cell HC0.out
  have HPL := Lib.hid (place_any w4 gh (oh + i * 11 + 1) _ o_.props key (hc4.cell HC2.out) (HRP.out.chg hc4 (fun _ _ x => x)))
  have HF := Lib.hid hf
  have HC4 := Lib.hid hc4
  clear hc4 hf HNN HKB2 HC1 HCA
  rw [HF.out] at HPL
  go_upto_region 18 with (go_at_call 43; refine HPL.out.mono ?_; rintro e w5 ⟨rfl, hc5⟩)
  have HC5 := Lib.hid (HC4.out.trans' hc5)
  have HY7 := Lib.hid (hc5.keep HB7.out (fun x => x))
  have c2 := HC5.out.cell HC2.out
  clear hc5 HPL c0 z1
  have HOB5 := Lib.hid (HOB.out.still HC5.out)
  have n0 := cell_of_block (i := 0) HY7.out rfl
  have n1 := cell_of_block (i := 1) HY7.out rfl
  have n2 := cell_of_block (i := 2) HY7.out rfl
  have n3 := cell_of_block (i := 3) HY7.out rfl
  simp only [List.getElem_toArray, List.getElem_cons_zero, List.getElem_cons_succ] at n0 n1 n2 n3
  have HS0 : Hid (w5.cell? ⟨gh, oh + i * 11 + 1 + 2, none⟩ = some (.slice p o_.props.length cap) ∧ w5.cell? ⟨b7, 0, none⟩ = some (.int .i64 y.kind) ∧ w5.cell? ⟨b7, 1, none⟩ = some (.int .i64 y.int) ∧ w5.cell? ⟨b7, 2, none⟩ = some (.string y.str) ∧ w5.cell? ⟨b7, 3, none⟩ = some (.int .i64 y.ref)) := Lib.hid ⟨c2, n0, n1, n2, n3⟩
  clear n0 n1 n2 n3
  have pl : (o_.props.length : Int) < 10000 := by omega
  have HLE := Lib.hid hlp
  clear hlp
  rw [show idxP none = -1 from rfl]
  obtain ⟨p', cap', xs', Fs, Fr, c2', hopen, ff0, hstay, hback⟩ := HOB5.out.fieldAppending objR_props (by show 0 < 10; decide)
  have hpe : p' = p ∧ cap' = cap := by
    rw [c2] at c2'
    cases c2'
    exact ⟨rfl, rfl⟩
  obtain ⟨rfl, rfl⟩ := hpe
  clear c2'
  have HE := Lib.hid elem_prop
  have HST := Lib.hid hstay
  have HBA := Lib.hid hback
  have HOPN := Lib.hid hopen
  have HN1 : Hid (¬ (Value.slice p' o_.props.length cap').ownBlock = some b7) := Lib.hid (fun hj => by
    have h2 := HRLT.out b7 hj
    have := HB7E.out
    omega)
  clear hstay hback hopen ff0
  go_upto_region 23 with fail
  clear c2 pl
  refine wp_region_held_split 12 (fun w' => w'.cell? ⟨gh, oh + i * 11 + 1 + 2, none⟩ = some (.slice p' o_.props.length cap') ∧ w'.cell? ⟨b7, 0, none⟩ = some (.int .i64 y.kind) ∧ w'.cell? ⟨b7, 1, none⟩ = some (.int .i64 y.int) ∧ w'.cell? ⟨b7, 2, none⟩ = some (.string y.str) ∧ w'.cell? ⟨b7, 3, none⟩ = some (.int .i64 y.ref)) (by kernel_rfl) (by kernel_rfl) ?_ (fun hHeld => ?_)
  · (first | exact HS0.out | exact HKS.out _ (Chg.refl _ _) | exact HKS.out _ (Chg.alloc _ _ _) | exact ⟨cc2, hchg2.cellS (HKS.out _ (Chg.alloc _ wD (.cells #[.string key, .int .i64 y.kind, .int .i64 y.int, .string y.str, .int .i64 y.ref] 86))).2.1 HN1.out, hchg2.cellS (HKS.out _ (Chg.alloc _ wD (.cells #[.string key, .int .i64 y.kind, .int .i64 y.int, .string y.str, .int .i64 y.ref] 86))).2.2.1 HN1.out, hchg2.cellS (HKS.out _ (Chg.alloc _ wD (.cells #[.string key, .int .i64 y.kind, .int .i64 y.int, .string y.str, .int .i64 y.ref] 86))).2.2.2.1 HN1.out, hchg2.cellS (HKS.out _ (Chg.alloc _ wD (.cells #[.string key, .int .i64 y.kind, .int .i64 y.int, .string y.str, .int .i64 y.ref] 86))).2.2.2.2 HN1.out⟩)
  simp only [List.take_succ_cons, List.take_zero]
  have HKS : Hid (∀ W, Chg (fun _ => False) w5.drew W → W.cell? ⟨gh, oh + i * 11 + 1 + 2, none⟩ = some (.slice p' o_.props.length cap') ∧ W.cell? ⟨b7, 0, none⟩ = some (.int .i64 y.kind) ∧ W.cell? ⟨b7, 1, none⟩ = some (.int .i64 y.int) ∧ W.cell? ⟨b7, 2, none⟩ = some (.string y.str) ∧ W.cell? ⟨b7, 3, none⟩ = some (.int .i64 y.ref)) := Lib.hid (fun W hc => ⟨hc.cell HS0.out.1, hc.cell HS0.out.2.1, hc.cell HS0.out.2.2.1, hc.cell HS0.out.2.2.2.1, hc.cell HS0.out.2.2.2.2⟩)
  have HWD : Hid (Chg (fun _ => False) w5 w5.drew) := Lib.hid (Chg.refl _ w5).drewR
  have HRA : Hid (RowAt w5.drew 86 5 (.slice p' o_.props.length cap') o_.props.length xs'.flatten) := Lib.hid HOPN.out.row.drew
  generalize w5.drew = wD at *
  refine wpAnyH_take (i := 0) (v := ?_) rfl (by kernel_rfl) (by kernel_rfl) (by kernel_rfl) (fun _ _ _ h => h) (Or.inl ⟨by rfl, ?_⟩) (by assumption) ?_
  rotate_left
  · (intro wq hSw; (try dsimp only at hSw); go_simp; (try with_reducible rfl))
  simp only [Act.put, List.getElem_toArray, List.getElem_cons_zero, List.getElem_cons_succ, List.setIfInBounds_toArray, List.set_cons_zero, List.set_cons_succ]
  refine wpAnyH_take (i := 1) (v := ?_) rfl (by kernel_rfl) (by kernel_rfl) (by kernel_rfl) (fun _ _ _ h => h) (Or.inl ⟨by rfl, ?_⟩) (by assumption) ?_
  rotate_left
  · (intro wq hSw; (try dsimp only at hSw); go_simp; (try with_reducible rfl))
  simp only [Act.put, List.getElem_toArray, List.getElem_cons_zero, List.getElem_cons_succ, List.setIfInBounds_toArray, List.set_cons_zero, List.set_cons_succ]
  refine wpAnyH_take (i := 2) (v := ?_) rfl (by kernel_rfl) (by kernel_rfl) (by kernel_rfl) (fun _ _ _ h => h) (Or.inl ⟨by rfl, ?_⟩) (by assumption) ?_
  rotate_left
  · (intro wq hSw; (try dsimp only at hSw); go_simp; (try with_reducible rfl))
  simp only [Act.put, List.getElem_toArray, List.getElem_cons_zero, List.getElem_cons_succ, List.setIfInBounds_toArray, List.set_cons_zero, List.set_cons_succ]
  refine wpAnyH_take (i := 3) (v := ?_) rfl (by kernel_rfl) (by kernel_rfl) (by kernel_rfl) (fun _ _ _ h => h) (Or.inl ⟨by rfl, ?_⟩) (by assumption) ?_
  rotate_left
  · (intro wq hSw; (try dsimp only at hSw); go_simp; (try with_reducible rfl))
  simp only [Act.put, List.getElem_toArray, List.getElem_cons_zero, List.getElem_cons_succ, List.setIfInBounds_toArray, List.set_cons_zero, List.set_cons_succ]
  refine wpAnyH_take (i := 4) (v := ?_) rfl (by kernel_rfl) (by kernel_rfl) (by kernel_rfl) (fun _ _ _ h => h) (Or.inl ⟨by rfl, ?_⟩) (by assumption) ?_
  rotate_left
  · (intro wq hSw; (try dsimp only at hSw); go_simp; (try with_reducible rfl))
  simp only [Act.put, List.getElem_toArray, List.getElem_cons_zero, List.getElem_cons_succ, List.setIfInBounds_toArray, List.set_cons_zero, List.set_cons_succ]
  refine wpAnyH_take (i := 5) (v := ?_) rfl (by kernel_rfl) (by kernel_rfl) (by kernel_rfl) (fun _ _ _ h => h) (Or.inl ⟨by rfl, ?_⟩) (by assumption) ?_
  rotate_left
  · (intro wq hSw; (try dsimp only at hSw); go_simp; (try with_reducible rfl))
  simp only [Act.put, List.getElem_toArray, List.getElem_cons_zero, List.getElem_cons_succ, List.setIfInBounds_toArray, List.set_cons_zero, List.set_cons_succ]
  refine wpAnyH_take (i := 6) (v := ?_) rfl (by kernel_rfl) (by kernel_rfl) (by kernel_rfl) (fun _ _ _ h => h) (Or.inl ⟨by rfl, ?_⟩) (by assumption) ?_
  rotate_left
  · (intro wq hSw; (try dsimp only at hSw); go_simp; (try with_reducible rfl))
  simp only [Act.put, List.getElem_toArray, List.getElem_cons_zero, List.getElem_cons_succ, List.setIfInBounds_toArray, List.set_cons_zero, List.set_cons_succ]
  refine wpAnyH_take (i := 7) (v := ?_) rfl (by kernel_rfl) (by kernel_rfl) (by kernel_rfl) (fun _ _ _ h => h) (Or.inl ⟨by rfl, ?_⟩) (by assumption) ?_
  rotate_left
  · (intro wq hSw; (try dsimp only at hSw); go_simp; (try with_reducible rfl))
  simp only [Act.put, List.getElem_toArray, List.getElem_cons_zero, List.getElem_cons_succ, List.setIfInBounds_toArray, List.set_cons_zero, List.set_cons_succ]
  refine wpAnyH_ready (rs := [8]) (by kernel_rfl) (by simp) ?_
  refine AllReadyH.cons (by simp only [List.getElem?_toArray, List.getElem?_cons_succ, List.getElem?_cons_zero]; rfl) (fun K hK => ?_) AllReadyH.nil
  go_simp
  refine hK.out _ _ ?_ (fun hHeld => ?_)
  · (first | exact HS0.out | exact HKS.out _ (Chg.refl _ _) | exact HKS.out _ (Chg.alloc _ _ _) | exact ⟨cc2, hchg2.cellS (HKS.out _ (Chg.alloc _ wD (.cells #[.string key, .int .i64 y.kind, .int .i64 y.int, .string y.str, .int .i64 y.ref] 86))).2.1 HN1.out, hchg2.cellS (HKS.out _ (Chg.alloc _ wD (.cells #[.string key, .int .i64 y.kind, .int .i64 y.int, .string y.str, .int .i64 y.ref] 86))).2.2.1 HN1.out, hchg2.cellS (HKS.out _ (Chg.alloc _ wD (.cells #[.string key, .int .i64 y.kind, .int .i64 y.int, .string y.str, .int .i64 y.ref] 86))).2.2.2.1 HN1.out, hchg2.cellS (HKS.out _ (Chg.alloc _ wD (.cells #[.string key, .int .i64 y.kind, .int .i64 y.int, .string y.str, .int .i64 y.ref] 86))).2.2.2.2 HN1.out⟩)
  clear hK K
  (try simp only [Act.put, List.getElem_toArray, List.getElem_cons_zero, List.getElem_cons_succ, List.setIfInBounds_toArray, List.set_cons_zero, List.set_cons_succ])
  refine wpAnyH_ready (rs := [9]) (by kernel_rfl) (by simp) ?_
  refine AllReadyH.cons (by simp only [List.getElem?_toArray, List.getElem?_cons_succ, List.getElem?_cons_zero]; rfl) (fun K hK => ?_) AllReadyH.nil
  (refine step_append_elem (by rfl) _ _ _ (by rfl) 86 5 56 Tryd.underlying43 HE.out (by decide) _ o_.props.length xs'.flatten (by rfl) (HRA.out.alloc (.cells #[.string key, .int .i64 y.kind, .int .i64 y.int, .string y.str, .int .i64 y.ref] 86)) [.string key, .int .i64 y.kind, .int .i64 y.int, .string y.str, .int .i64 y.ref] rfl wD.heap.size 86 (0, 0) (by rfl) (alloc_block wD _) (by simp [Value.oneCell']) (by have := HLE.out; unfold maxLen; omega) (by have := HLE.out; omega) ?_; intro a2 n2 cp2 w2_ hrow2 hchg2 hold2; have cc2 := (HST.out _ _ (HWD.out.allocR (.cells #[.string key, .int .i64 y.kind, .int .i64 y.int, .string y.str, .int .i64 y.ref] 86)) hchg2).1; have f2 := (HST.out _ _ (HWD.out.allocR (.cells #[.string key, .int .i64 y.kind, .int .i64 y.int, .string y.str, .int .i64 y.ref] 86)) hchg2).2)
  refine hK.out _ _ ?_ (fun hHeld => ?_)
  · (first | exact HS0.out | exact HKS.out _ (Chg.refl _ _) | exact HKS.out _ (Chg.alloc _ _ _) | exact ⟨cc2, hchg2.cellS (HKS.out _ (Chg.alloc _ wD (.cells #[.string key, .int .i64 y.kind, .int .i64 y.int, .string y.str, .int .i64 y.ref] 86))).2.1 HN1.out, hchg2.cellS (HKS.out _ (Chg.alloc _ wD (.cells #[.string key, .int .i64 y.kind, .int .i64 y.int, .string y.str, .int .i64 y.ref] 86))).2.2.1 HN1.out, hchg2.cellS (HKS.out _ (Chg.alloc _ wD (.cells #[.string key, .int .i64 y.kind, .int .i64 y.int, .string y.str, .int .i64 y.ref] 86))).2.2.2.1 HN1.out, hchg2.cellS (HKS.out _ (Chg.alloc _ wD (.cells #[.string key, .int .i64 y.kind, .int .i64 y.int, .string y.str, .int .i64 y.ref] 86))).2.2.2.2 HN1.out⟩)
  clear hK K
  (try simp only [Act.put, List.getElem_toArray, List.getElem_cons_zero, List.getElem_cons_succ, List.setIfInBounds_toArray, List.set_cons_zero, List.set_cons_succ])
  refine wpAnyH_take (i := 10) (v := ?_) rfl (by kernel_rfl) (by kernel_rfl) (by kernel_rfl) (fun _ _ _ h => h) (Or.inl ⟨by rfl, ?_⟩) (by assumption) ?_
  rotate_left
  · (intro wq hSw; (try dsimp only at hSw); go_simp; (try with_reducible rfl))
  simp only [Act.put, List.getElem_toArray, List.getElem_cons_zero, List.getElem_cons_succ, List.setIfInBounds_toArray, List.set_cons_zero, List.set_cons_succ]
  refine wpAnyH_take (i := 11) (v := ?_) rfl (by kernel_rfl) (by kernel_rfl) (by kernel_rfl) (fun _ _ _ h => h) (Or.inl ⟨by rfl, ?_⟩) (by assumption) ?_
  rotate_left
  · (intro wq hSw; (try dsimp only at hSw); go_simp; (try with_reducible rfl))
  simp only [Act.put, List.getElem_toArray, List.getElem_cons_zero, List.getElem_cons_succ, List.setIfInBounds_toArray, List.set_cons_zero, List.set_cons_succ]
  refine wpAnyH_done (by kernel_rfl) ?_ _
  change wpList _ _ _ _ _ _
  simp only [List.drop_succ_cons, List.drop_zero]
  have P9 := HBA.out _ _ [.string key, .int .i64 y.kind, .int .i64 y.int, .string y.str, .int .i64 y.ref] ⟨key, y.kind, y.int, y.str, y.ref⟩ [] _ (HWD.out.allocR (.cells #[.string key, .int .i64 y.kind, .int .i64 y.int, .string y.str, .int .i64 y.ref] 86)) ⟨rfl, rfl⟩ (by simp) (by simp) hrow2 hchg2 hold2
  clear hHeld
  go_wp2_with fail
  go_ret
  exact ⟨rfl, HPT.out _ _ (Post.pre HC5.out P9)⟩
set_option maxHeartbeats 6400000 in
set_option maxRecDepth 100000 in
theorem put_old (w : World) (b : Nat) (hp : Hp) (F : List Nat) (h : Int) (i : Nat) (key : ByteArray) (x y : Val) (H : Here hpR w b 0 hp F) (hi : -9223372036854775808 ≤ h ∧ h ≤ 9223372036854775807) (hs : slotOf hp h = some i) (hl : i < hp.slots.length) (hk : hp.slots[i].obj.kind ≠ 1)
    (HN : ∀ W, Chg (fun _ => False) w W → Calls Tryd.prog 37 #[.agg #[.int .i64 x.kind, .int .i64 x.int, .string x.str, .int .i64 x.ref]] W fun e w' => e = .returned (.agg #[.int .i64 y.kind, .int .i64 y.int, .string y.str, .int .i64 y.ref]) ∧ Chg (fun _ => False) W w') (j : Nat) (hf : findP key hp.slots[i].obj.props 0 = some j) (hj : j < hp.slots[i].obj.props.length) (hlp : hp.slots[i].obj.props.length ≤ 10000) :
    Calls Tryd.prog 24 #[.pointer (some ⟨b, 0, none⟩), .int .i64 h, .string key, .agg #[.int .i64 x.kind, .int .i64 x.int, .string x.str, .int .i64 x.ref]] w fun e w' => e = .returned (.int .i64 0) ∧ Post hpR w b 0 (putO hp i { hp.slots[i].obj with props := hp.slots[i].obj.props.set j ⟨hp.slots[i].obj.props[j].key, y.kind, y.int, y.str, y.ref⟩ }) F w' := by
  have hca := Chg.alloc (fun _ => False) w (.cells #[.int .i64 x.kind, .int .i64 x.int, .string x.str, .int .i64 x.ref] 36)
  have kb := alloc_block w (.cells #[.int .i64 x.kind, .int .i64 x.int, .string x.str, .int .i64 x.ref] 36)
  have HKB := Lib.hid kb
  have H2 := H.still hca
  obtain ⟨gh, oh, kh, c2, G, HOBJ0, hGF, hput⟩ := hpPut H hl
  obtain ⟨vp, ve, vd, vs, HOC⟩ := objOpen HOBJ0
  obtain ⟨p, cap, rfl, -⟩ := HOC.rp.slice
  have hrlt := HOC.rp.lt
  have c0 := HOC.c0
  have z1 : (hp.slots[i].obj.kind == 1) = false := beq_false_of_ne hk
  have hat := hat_any _ b 0 hp F h _ H2 (by rw [Nat.zero_add]; exact hca.cell c2) hi
  rw [hs, show objPtr (.slice (some ⟨gh, oh, none⟩) hp.slots.length kh) (some i) = some ⟨gh, oh + i * 11 + 1, none⟩ from rfl] at hat
  have HAT := Lib.hid hat
  have HNN := Lib.hid HN
  have HC2 := Lib.hid HOC.c2
  have HRP := Lib.hid HOC.rp
  generalize hx : hp.slots[i].obj = o_ at *
  have HX := Lib.hid hx
  have HC0 := Lib.hid c0
  have HCA := Lib.hid hca
  have HOB := Lib.hid HOBJ0
  have HPT := Lib.hid hput
  have HRLT := Lib.hid hrlt
  have HBS : Hid (∀ k ∈ G, k < w.heap.size) := Lib.hid (fun k hk => H.lt.2 k (hGF k hk))
  clear kb hca H2 c2 HOBJ0 hrlt hGF hput HOC c0 hi hs H hx hk hat HN
  go_enter Tryd.func24, Tryd.ntmps24
  go_upto_region 1 with fail
  generalize hw2 : w.alloc (.cells #[.int .i64 x.kind, .int .i64 x.int, .string x.str, .int .i64 x.ref] 36) = w1 at *
  generalize hb7 : w.heap.size = b7 at *
  have HB7E := Lib.hid hb7
  clear hw2 hb7
  go_upto_region 4 with (go_at_call 35; refine HAT.out.mono ?_; rintro e wa ⟨rfl, hca⟩)
  have HC1 := Lib.hid (HCA.out.trans' hca)
  have HKB2 := Lib.hid (hca.keep HKB.out (fun x => x))
  have k0 := cell_of_block (i := 0) HKB2.out rfl
  have k1 := cell_of_block (i := 1) HKB2.out rfl
  have k2 := cell_of_block (i := 2) HKB2.out rfl
  have k3 := cell_of_block (i := 3) HKB2.out rfl
  simp only [List.getElem_toArray, List.getElem_cons_zero, List.getElem_cons_succ] at k0 k1 k2 k3
  clear hca HAT HKB
  go_upto_region 5 with (go_at_call 37; refine (HNN.out _ HC1.out).mono ?_; rintro e wn ⟨rfl, hcn⟩; have hbn := hcn.keep HKB2.out (fun x => x); obtain ⟨z10, q0, z11, q1, z12, q2, z13, q3, hbf, hcs⟩ := store4 hbn (.int .i64 y.kind) (.int .i64 y.int) (.string y.str) (.int .i64 y.ref))
  have HB7 := Lib.hid hbf
  have hc4 : Chg (fun _ => False) w (((((wn.setCell ⟨b7, 0, none⟩ (.int .i64 y.kind)).setCell ⟨b7, 1, none⟩ (.int .i64 y.int)).setCell ⟨b7, 2, none⟩ (.string y.str)).setCell ⟨b7, 3, none⟩ (.int .i64 y.ref))) := (HC1.out.trans' hcn).trans hcs (fun _ _ x => x) (fun k hk e => by have := HB7E.out; omega)
  clear hbf hcs hcn hbn z10 q0 z11 q1 z12 q2 z13 q3 k0 k1 k2 k3
  generalize ((((wn.setCell ⟨b7, 0, none⟩ (.int .i64 y.kind)).setCell ⟨b7, 1, none⟩ (.int .i64 y.int)).setCell ⟨b7, 2, none⟩ (.string y.str)).setCell ⟨b7, 3, none⟩ (.int .i64 y.ref)) = w4 at *
  have c0 := hc4.cell HC0.out
  have HPL := Lib.hid (place_any w4 gh (oh + i * 11 + 1) _ o_.props key (hc4.cell HC2.out) (HRP.out.chg hc4 (fun _ _ x => x)))
  have HF := Lib.hid hf
  have HC4 := Lib.hid hc4
  clear hc4 hf HNN HKB2 HC1 HCA
  rw [HF.out] at HPL
  go_upto_region 18 with (go_at_call 43; refine HPL.out.mono ?_; rintro e w5 ⟨rfl, hc5⟩)
  have HC5 := Lib.hid (HC4.out.trans' hc5)
  have HY7 := Lib.hid (hc5.keep HB7.out (fun x => x))
  have c2 := HC5.out.cell HC2.out
  clear hc5 HPL c0 z1
  have HOB5 := Lib.hid (HOB.out.still HC5.out)
  have n0 := cell_of_block (i := 0) HY7.out rfl
  have n1 := cell_of_block (i := 1) HY7.out rfl
  have n2 := cell_of_block (i := 2) HY7.out rfl
  have n3 := cell_of_block (i := 3) HY7.out rfl
  simp only [List.getElem_toArray, List.getElem_cons_zero, List.getElem_cons_succ] at n0 n1 n2 n3
  have HS0 : Hid (w5.cell? ⟨gh, oh + i * 11 + 1 + 2, none⟩ = some (.slice p o_.props.length cap) ∧ w5.cell? ⟨b7, 0, none⟩ = some (.int .i64 y.kind) ∧ w5.cell? ⟨b7, 1, none⟩ = some (.int .i64 y.int) ∧ w5.cell? ⟨b7, 2, none⟩ = some (.string y.str) ∧ w5.cell? ⟨b7, 3, none⟩ = some (.int .i64 y.ref)) := Lib.hid ⟨c2, n0, n1, n2, n3⟩
  clear n0 n1 n2 n3
  have j0 : (0 : Int) ≤ (j : Int) := by omega
  have j1 : (j : Int) < (o_.props.length : Int) := by omega
  have HJ := Lib.hid hj
  clear hlp
  rw [show idxP (some j) = (j : Int) from rfl]
  obtain ⟨gp, opp, cp, hcv⟩ := HOB5.out.rowAt objR_props (by show 0 < 10; decide) (by have := HJ.out; omega)
  have hpe : p = some ⟨gp, opp, none⟩ ∧ cp = cap := by
    rw [c2] at hcv
    cases hcv
    exact ⟨rfl, rfl⟩
  obtain ⟨rfl, rfl⟩ := hpe
  obtain ⟨G2, HEL, -, -, -, hwb⟩ := (HOB5.out.drew).rowElem objR_props (by show 0 < 10; decide) (show w5.drew.cell? _ = _ from c2) HJ.out
  have HWB := Lib.hid hwb
  have HELH := Lib.hid HEL
  clear hcv hwb HEL
  go_upto_region 19 with fail
  clear c2
  refine wp_region_held_split 8 (fun w' => w'.cell? ⟨gh, oh + i * 11 + 1 + 2, none⟩ = some (.slice (some ⟨gp, opp, none⟩) o_.props.length cp) ∧ w'.cell? ⟨b7, 0, none⟩ = some (.int .i64 y.kind) ∧ w'.cell? ⟨b7, 1, none⟩ = some (.int .i64 y.int) ∧ w'.cell? ⟨b7, 2, none⟩ = some (.string y.str) ∧ w'.cell? ⟨b7, 3, none⟩ = some (.int .i64 y.ref)) (by kernel_rfl) (by kernel_rfl) ?_ (fun hHeld => ?_)
  · (first | exact HS0.out | exact HKS.out _ (Chg.refl _ _))
  simp only [List.take_succ_cons, List.take_zero]
  have HKS : Hid (∀ W, Chg (fun _ => False) w5.drew W → W.cell? ⟨gh, oh + i * 11 + 1 + 2, none⟩ = some (.slice (some ⟨gp, opp, none⟩) o_.props.length cp) ∧ W.cell? ⟨b7, 0, none⟩ = some (.int .i64 y.kind) ∧ W.cell? ⟨b7, 1, none⟩ = some (.int .i64 y.int) ∧ W.cell? ⟨b7, 2, none⟩ = some (.string y.str) ∧ W.cell? ⟨b7, 3, none⟩ = some (.int .i64 y.ref)) := Lib.hid (fun W hc => ⟨hc.cell HS0.out.1, hc.cell HS0.out.2.1, hc.cell HS0.out.2.2.1, hc.cell HS0.out.2.2.2.1, hc.cell HS0.out.2.2.2.2⟩)
  have HWD : Hid (Chg (fun _ => False) w5 w5.drew) := Lib.hid (Chg.refl _ w5).drewR
  generalize w5.drew = wD at *
  refine wpAnyH_take (i := 0) (v := ?_) rfl (by kernel_rfl) (by kernel_rfl) (by kernel_rfl) (fun _ _ _ h => h) (Or.inl ⟨by rfl, ?_⟩) (by assumption) ?_
  rotate_left
  · (intro wq hSw; (try dsimp only at hSw); go_simp; (try with_reducible rfl))
  simp only [Act.put, List.getElem_toArray, List.getElem_cons_zero, List.getElem_cons_succ, List.setIfInBounds_toArray, List.set_cons_zero, List.set_cons_succ]
  refine wpAnyH_take (i := 1) (v := ?_) rfl (by kernel_rfl) (by kernel_rfl) (by kernel_rfl) (fun _ _ _ h => h) (Or.inl ⟨by rfl, ?_⟩) (by assumption) ?_
  rotate_left
  · (intro wq hSw; (try dsimp only at hSw); go_simp; (try with_reducible rfl))
  simp only [Act.put, List.getElem_toArray, List.getElem_cons_zero, List.getElem_cons_succ, List.setIfInBounds_toArray, List.set_cons_zero, List.set_cons_succ]
  refine wpAnyH_take (i := 2) (v := ?_) rfl (by kernel_rfl) (by kernel_rfl) (by kernel_rfl) (fun _ _ _ h => h) (Or.inl ⟨by rfl, ?_⟩) (by assumption) ?_
  rotate_left
  · (intro wq hSw; (try dsimp only at hSw); go_simp; (try with_reducible rfl))
  simp only [Act.put, List.getElem_toArray, List.getElem_cons_zero, List.getElem_cons_succ, List.setIfInBounds_toArray, List.set_cons_zero, List.set_cons_succ]
  refine wpAnyH_take (i := 3) (v := ?_) rfl (by kernel_rfl) (by kernel_rfl) (by kernel_rfl) (fun _ _ _ h => h) (Or.inl ⟨by rfl, ?_⟩) (by assumption) ?_
  rotate_left
  · (intro wq hSw; (try dsimp only at hSw); go_simp; (try with_reducible rfl))
  simp only [Act.put, List.getElem_toArray, List.getElem_cons_zero, List.getElem_cons_succ, List.setIfInBounds_toArray, List.set_cons_zero, List.set_cons_succ]
  refine wpAnyH_take (i := 4) (v := ?_) rfl (by kernel_rfl) (by kernel_rfl) (by kernel_rfl) (fun _ _ _ h => h) (Or.inl ⟨by rfl, ?_⟩) (by assumption) ?_
  rotate_left
  · (intro wq hSw; (try dsimp only at hSw); go_simp; (try with_reducible rfl))
  simp only [Act.put, List.getElem_toArray, List.getElem_cons_zero, List.getElem_cons_succ, List.setIfInBounds_toArray, List.set_cons_zero, List.set_cons_succ]
  refine wpAnyH_take (i := 5) (v := ?_) rfl (by kernel_rfl) (by kernel_rfl) (by kernel_rfl) (fun _ _ _ h => h) (Or.inl ⟨by rfl, ?_⟩) (by assumption) ?_
  rotate_left
  · (intro wq hSw; (try dsimp only at hSw); go_simp; (try with_reducible rfl))
  simp only [Act.put, List.getElem_toArray, List.getElem_cons_zero, List.getElem_cons_succ, List.setIfInBounds_toArray, List.set_cons_zero, List.set_cons_succ]
  refine wpAnyH_take (i := 6) (v := ?_) rfl (by kernel_rfl) (by kernel_rfl) (by kernel_rfl) (fun _ _ _ h => h) (Or.inl ⟨by rfl, ?_⟩) (by assumption) ?_
  rotate_left
  · (intro wq hSw; (try dsimp only at hSw); go_simp; (try with_reducible rfl))
  simp only [Act.put, List.getElem_toArray, List.getElem_cons_zero, List.getElem_cons_succ, List.setIfInBounds_toArray, List.set_cons_zero, List.set_cons_succ]
  refine wpAnyH_take (i := 7) (v := ?_) rfl (by kernel_rfl) (by kernel_rfl) (by kernel_rfl) (fun _ _ _ h => h) (Or.inl ⟨by rfl, ?_⟩) (by assumption) ?_
  rotate_left
  · (intro wq hSw; (try dsimp only at hSw); go_simp; (try with_reducible rfl))
  simp only [Act.put, List.getElem_toArray, List.getElem_cons_zero, List.getElem_cons_succ, List.setIfInBounds_toArray, List.set_cons_zero, List.set_cons_succ]
  refine wpAnyH_done (by kernel_rfl) ?_ _
  change wpList _ _ _ _ _ _
  simp only [List.drop_succ_cons, List.drop_zero]
  have P1 := HELH.out.setPost propR_vkind (y := y.kind) (v := .int .i64 y.kind) rfl
  have P2 := P1.then (fun F' H' => H'.setPost propR_vint (y := y.int) (v := .int .i64 y.int) rfl)
  have P3 := P2.then (fun F' H' => H'.setPost propR_vstr (y := y.str) (v := .string y.str) rfl)
  have P4 := P3.then (fun F' H' => H'.setPost propR_vref (y := y.ref) (v := .int .i64 y.ref) rfl)
  obtain ⟨cB, TB, hbB, hszB⟩ : ∃ c T, wD.heap[gp]? = some (.cells c T (0, 0)) ∧ opp + j * 5 + 1 + 4 ≤ c.size := by
    obtain ⟨c, T, hh⟩ := HELH.out.size
    rcases hh with hh | hh
    · exact ⟨c, T, hh.1, by have := hh.2.2; show opp + j * 5 + 5 ≤ _; exact this⟩
    · exact absurd hh (by decide)
  obtain ⟨u0, u1, u2, u3, ⟨e0, f0⟩, ⟨e1, f1⟩, ⟨e2, f2⟩, e3, f3⟩ := store4At (o := opp + j * 5 + 1) hbB hszB (.int .i64 y.kind) (.int .i64 y.int) (.string y.str) (.int .i64 y.ref)
  have HP4 := Lib.hid P4
  clear P1 P2 P3 P4
  go_wp2_with fail
  go_ret
  obtain ⟨F4, h1, h2⟩ := HP4.out
  exact ⟨rfl, HPT.out _ _ (Post.pre (HC5.out.trans' HWD.out) (HWB.out _ _ F4 h1 h2).1)⟩
end Go.Proofs.YtjianickjahdnaaDoor
namespace Go.Proofs.YtjianickjahdnaaDoor
open Go.RowKit
set_option linter.unusedVariables false
set_option linter.unusedSimpArgs false

theorem ownL_nodup (v : Value) : (ownL v).Nodup := by
  unfold ownL
  cases v.ownBlock <;> simp
section
variable {α β : Type} {A : Rep α} {w : World} {b o k : Nat} {a : α} {F : List Nat} {e : TypeId}
/-- A row of flat data in a field: its value, and what lies there when another row has been stored. -/
theorem Here.fieldFlat {n : Nat} {f : β → List Value} {hf : ∀ a, (f a).length = n} {get : α → List β} {set : α → List β → α} (fl : FieldOf A ((Rep.flat n f hf).row e) k get set) (hA : 0 < A.n) (H : Here A w b o a F) :
    ∃ v, w.cell? ⟨b, o + k, none⟩ = some v ∧ RowAt w e n v (get a).length ((get a).flatMap f) ∧ (∀ j, v.ownBlock = some j → j ∈ F) ∧ ¬ v.ownBlock = some b ∧
      ∀ w2 v2 l, Chg (fun j => v.ownBlock = some j) w w2 → RowAt w2 e n v2 l.length (l.flatMap f) → (∀ j, v2.ownBlock = some j → v.ownBlock = some j ∨ w.heap.size ≤ j) →
        Post A w b o (set a l) F (w2.setCell ⟨b, o + k, none⟩ v2) := by
  obtain ⟨G1, h1, h2, h3⟩ := H.field fl hA
  obtain ⟨cs, hown, hcell⟩ := h1.cell
  obtain ⟨v, rfl, hr, rfl⟩ := row_flat.1 hown
  refine ⟨v, hcell 0 v rfl, hr, fun j hj => h2 j (mem_ownL.2 hj), fun hj => h1.nb (mem_ownL.2 hj), fun w2 v2 l hc hr2 hn => ?_⟩
  obtain ⟨p, q⟩ := h1.put (w2 := w2) (v := v2) (y := l) (G' := ownL v2) rfl (hc.mono fun j _ hj => mem_ownL.2 hj) (row_flat.2 ⟨v2, rfl, hr2, rfl⟩) (ownL_nodup v2) (fun j hj => (hn j (mem_ownL.1 hj)).imp mem_ownL.2 id)
  exact h3 _ _ _ p q
end
/-- append(x, make([]T, m)...): zeros onto an owned row. -/
theorem run_append_zeros {P : Program} (w : World) (t tx ty e : TypeId) (i : TypeInfo) (z : Value) (size bytes : Nat) (kx : IntKind) (ht : P.underlying t = some (.slice e)) (hk : P.underlying tx = some (.int kx)) (hi : P.info? e = some i) (hz : i.zero = some z)
    (hsize : i.size = size) (hby : i.bytes = bytes) (hzs : z.cells.size = size) (hsz : 0 < size) (h1 : ∀ u ∈ z.cells.toList, u.oneCell' = true)
    (v : Value) (n : Nat) (xs : List Value) (hown : RowAt w e size v n xs) (m : Nat) (h63 : n + m ≤ 4611686018427387904) (hbytes : (n + m) * bytes ≤ 140737488355328) :
    ∃ v' w', (Builtin.append_ #[t, tx] ty #[v, .int kx (m : Int)]).run P w = .ok v' w' ∧ RowAt w' e size v' (n + m) (xs ++ (Builtin.zeroCells z.cells m).toList) ∧ Chg (fun k => v.ownBlock = some k) w w' ∧
      (∀ k, v'.ownBlock = some k → v.ownBlock = some k ∨ w.heap.size ≤ k) := by
  subst hsize
  subst hby
  have wm : IntKind.i64.wrap (m : Int) = (m : Int) := IntWalk.i64_in _ (by omega)
  have m0 : ¬ (m : Int) < 0 := by omega
  have hai : ∀ (n : Int) (w' : World), (asIntOf (Value.int kx n)).run P w' = .ok (kx, n) w' := fun _ _ => rfl
  have mb : ¬ (281474976710656 < (m : Int) * (i.bytes : Int)) := by
    have : m * i.bytes ≤ (n + m) * i.bytes := Nat.mul_le_mul_right _ (by omega)
    have h2 : ((m * i.bytes : Nat) : Int) = (m : Int) * (i.bytes : Int) := by simp
    omega
  have hzl : (Builtin.zeroCells z.cells m).toList.length = m * i.size := by
    rw [Array.length_toList, size_zeroCells, hzs]
  have hap : (if m * i.size = 0 then (#[] : Array Value) else Builtin.zeroCells z.cells m) = Builtin.zeroCells z.cells m := by
    split
    · rename_i h
      have : (Builtin.zeroCells z.cells m).size = 0 := by rw [← Array.length_toList, hzl, h]
      exact (Array.eq_empty_of_size_eq_zero this).symm
    · rfl
  have hone : ∀ u ∈ (Builtin.zeroCells z.cells m).toList, u.oneCell' = true := by
    intro u hu
    unfold Builtin.zeroCells at hu
    rw [Array.toList_map, List.mem_map] at hu
    obtain ⟨j, -, rfl⟩ := hu
    have hj : j % z.cells.size < z.cells.size := Nat.mod_lt _ (by omega)
    rw [getElem!_pos z.cells (j % z.cells.size) hj]
    exact h1 _ (Array.getElem_mem_toList hj)
  have hlen : (xs ++ (Builtin.zeroCells z.cells m).toList).length = (n + m) * i.size := by rw [List.length_append, hown.1, hzl, Nat.add_mul]
  have hmaxl : n + m ≤ maxLen := by unfold maxLen; omega
  have grow : ∀ (base : Option Addr) (cap : Nat), v = .slice base n cap → cap < n + m → (Builtin.firstCells i.size n (.slice base n cap)).run P w.drew = .ok xs.toArray w.drew →
      ∃ v' w', (Builtin.append_ #[t, tx] ty #[v, .int kx (m : Int)]).run P w = .ok v' w' ∧ RowAt w' e i.size v' (n + m) (xs ++ (Builtin.zeroCells z.cells m).toList) ∧ Chg (fun k => v.ownBlock = some k) w w' ∧
      (∀ k, v'.ownBlock = some k → v.ownBlock = some k ∨ w.heap.size ≤ k) := by
    intro base cap hv hcap hold
    have hfit := growslice_fits hcap hbytes
    have hn : ¬ (n + m ≤ cap) := by omega
    have h63' : ¬ (9223372036854775807 < ((n : Int) + (m : Int))) := by omega
    have h48' : ¬ (281474976710656 < Builtin.nextslicecap (n + m) cap * i.bytes) := by omega
    have hge := grownCap_ge w (n + m) cap e
    have hcm : grownCap w (n + m) cap e ≤ maxLen := grownCap_le_maxLen w (n + m) cap e hmaxl
    have hr : (Builtin.append_ #[t, tx] ty #[v, .int kx (m : Int)]).run P w =
      .ok (.slice (some ⟨w.heap.size, 0, none⟩) (n + m) (grownCap w (n + m) cap e))
        (w.drew.alloc (.cells ((xs ++ (Builtin.zeroCells z.cells m).toList).toArray ++ Builtin.zeroCells z.cells (grownCap w (n + m) cap e - (n + m))) e)) := by
      rw [hv]
      by_cases hm0 : m * i.size = 0
      · have hzz : Builtin.zeroCells z.cells m = #[] := by rw [← hap, if_pos hm0]
        simp [Builtin.append_, run_underlying ht, run_underlying hk, sizeOf, typeInfo, zeroValue, hi, hz, wm, m0, mb, hn, h63', h48', Question.forced, hold, newRow, grownCap, asInt, hai, hm0, hzz]
      · simp [Builtin.append_, run_underlying ht, run_underlying hk, sizeOf, typeInfo, zeroValue, hi, hz, wm, m0, mb, hn, h63', h48', Question.forced, hold, newRow, grownCap, asInt, hai, hm0]
        congr 2
        apply Array.ext'
        simp [List.append_assoc]
    refine ⟨_, _, hr, ⟨hlen, .inr ⟨w.heap.size, 0, _, _, rfl, heap_alloc_new w.drew _, hge, hcm, ?_, ?_⟩⟩, ?_, ?_⟩
    · simp only [Array.size_append, List.size_toArray, size_zeroCells, hzs, hlen, ← Nat.add_mul]
      rw [show n + m + (grownCap w (n + m) cap e - (n + m)) = grownCap w (n + m) cap e from by omega]
      omega
    · simp only [Array.toList_append, List.drop_zero]
      rw [← hlen]
      exact List.take_left
    · exact ((Chg.refl _ w).drewR).allocR _
    · intro k hk
      simp only [Value.ownBlock, Option.some.injEq] at hk
      exact .inr (by omega)
  rcases hown.2 with ⟨rfl, rfl⟩ | ⟨g, off, cap, cur, rfl, hg, hnc, hcm, hcs, htake⟩
  · have hx : xs = [] := List.eq_nil_of_length_eq_zero (by simpa using hown.1)
    subst hx
    by_cases hm : m = 0
    · subst hm
      have hzz : Builtin.zeroCells z.cells 0 = #[] := by simp [Builtin.zeroCells]
      have w00 : IntKind.i64.wrap 0 = 0 := IntWalk.i64_in _ (by omega)
      refine ⟨.slice none 0 0, w, ?_, by rw [hzz]; exact RowAt.nil w e i.size, .refl _ _, fun k hk => .inl hk⟩
      simp [Builtin.append_, run_underlying ht, run_underlying hk, sizeOf, typeInfo, hi, asInt, hai, w00]
    · exact grow none 0 rfl (by omega) (run_firstCells_none w.drew i.size 0 0 0)
  · by_cases hroom : n + m ≤ cap
    · have hmul : n * i.size + m * i.size ≤ cap * i.size := by rw [← Nat.add_mul]; exact Nat.mul_le_mul_right _ hroom
      have hfit : off + n * i.size + (Builtin.zeroCells z.cells m).toList.length ≤ cur.size := by rw [hzl]; omega
      have hst := run_storeCells_cells (P := P) g (off + n * i.size) (Builtin.zeroCells z.cells m).toList 0 w (fun j hj => by rw [Nat.add_zero, cell_of_block hg (Array.getElem?_eq_getElem (by omega))]; rfl) (fun j _ => frozen_of_block hg) hone
      simp only [Nat.add_zero] at hst
      have hr : (Builtin.append_ #[t, tx] ty #[.slice (some ⟨g, off, none⟩) n cap, .int kx (m : Int)]).run P w = .ok (.slice (some ⟨g, off, none⟩) (n + m) cap) (w.setCells g (off + n * i.size) (Builtin.zeroCells z.cells m).toList) := by
        by_cases hm0 : m * i.size = 0
        · have hzz : Builtin.zeroCells z.cells m = #[] := by rw [← hap, if_pos hm0]
          rw [hzz] at hst
          simp [Builtin.append_, run_underlying ht, run_underlying hk, sizeOf, typeInfo, zeroValue, hi, hz, wm, m0, mb, hroom, asInt, hai, hm0, hzz, Addr.add_lit, hst]
        · simp [Builtin.append_, run_underlying ht, run_underlying hk, sizeOf, typeInfo, zeroValue, hi, hz, wm, m0, mb, hroom, asInt, hai, hm0, Addr.add_lit, hst]
      refine ⟨_, _, hr, ⟨hlen, .inr ⟨g, off, cap, _, rfl, setCells_block _ _ hg, hroom, hcm, ?_, ?_⟩⟩, ?_, fun k hk => .inl hk⟩
      · rw [putAt_size]; exact hcs
      · rw [putAt_toList _ _ _ hfit, List.append_assoc, List.drop_append_of_le_length (by simp; omega)]
        rw [← List.append_assoc, List.drop_take, show off + n * i.size - off = n * i.size from by omega, htake, ← hlen]
        exact List.take_left
      · exact (Chg.setCells _ w _).mono (fun k _ hk => by simp only [Value.ownBlock, hk])
    · refine grow (some ⟨g, off, none⟩) cap rfl (by omega) ?_
      refine run_firstCells_some w.drew i.size n ⟨g, off, none⟩ n cap xs hown.1 ?_
      intro j u hu
      have := hown.cells rfl j u hu
      simpa using this
/-- Inside a region that draws its order. -/
theorem step_append_zeros {P : Program} {w : World} {ops : Array Oper} {o : Oper} {a : Act} {K : Act → World → Prop} {Q : Exit → Act → World → Prop} {E : Prop} (hgd : o.guard = none) (s x : Operand) (t tx : TypeId)
    (ho : o.op = .call { callee := .builtin .append, args := #[s, x], argTypes := #[t, tx] })
    (e : TypeId) (i : TypeInfo) (z : Value) (size bytes : Nat) (kx : IntKind) (ht : P.underlying t = some (.slice e)) (hk : P.underlying tx = some (.int kx)) (hi : P.info? e = some i) (hz : i.zero = some z)
    (hsize : i.size = size) (hby : i.bytes = bytes) (hzs : z.cells.size = size) (hsz : 0 < size) (h1 : ∀ u ∈ z.cells.toList, u.oneCell' = true)
    (v : Value) (n : Nat) (xs : List Value) (hsv : a.eval s = v) (hown : RowAt w e size v n xs) (m : Nat) (hx : a.eval x = .int kx (m : Int)) (h63 : n + m ≤ 4611686018427387904) (hbytes : (n + m) * bytes ≤ 140737488355328)
    (h : ∀ a1 n1 c1 w', RowAt w' e size (.slice a1 n1 c1) (n + m) (xs ++ (Builtin.zeroCells z.cells m).toList) → Chg (fun k => v.ownBlock = some k) w w' → (∀ k, (Value.slice a1 n1 c1).ownBlock = some k → v.ownBlock = some k ∨ w.heap.size ≤ k) → K (a.put o.dst (.slice a1 n1 c1)) w') :
    if Region.wanted o (yielded ops a.tmps) = true then Oper.wp P o a w K Q else E := by
  have hw : Region.wanted o (yielded ops a.tmps) = true := by simp [Region.wanted, hgd]
  rw [if_pos hw]
  obtain ⟨v', w', hr, h2, h3, h4⟩ := run_append_zeros (P := P) w t tx o.type e i z size bytes kx ht hk hi hz hsize hby hzs hsz h1 v n xs hown m h63 hbytes
  obtain ⟨a1, c1, rfl, -⟩ := h2.slice
  unfold Oper.wp execOp
  simp only [ho, resolve, invoke, builtin, Sem.run_bind, Sem.run_pure, Result.andThen_ok, List.map_toArray, List.map_cons, List.map_nil, hsv, hx, hr]
  exact h _ _ _ w' h2 h3 h4
/-- The cells of m zeros. -/
theorem zeroCells_rep {z : Array Value} {cs : List Value} (h : z.toList = cs) (hp : 0 < cs.length) : ∀ m : Nat, (Builtin.zeroCells z m).toList = (List.replicate m cs).flatten := by
  have hz : z.size = cs.length := by rw [← h, Array.length_toList]
  have key : ∀ m, (Builtin.zeroCells z m).toList = (List.range (m * cs.length)).map fun i => cs.getD (i % cs.length) default := by
    intro m
    unfold Builtin.zeroCells
    rw [Array.toList_map, Array.toList_range, hz]
    refine List.map_congr_left fun i hi => ?_
    have hj : i % z.size < z.size := Nat.mod_lt _ (by omega)
    rw [← hz, getElem!_pos z (i % z.size) hj, List.getD_eq_getElem?_getD, ← h, List.getElem?_eq_getElem (by rw [Array.length_toList]; exact hj)]
    simp
  intro m
  rw [key]
  induction m with
  | zero => simp
  | succ m ih =>
    rw [List.replicate_succ', List.flatten_append, ← ih, Nat.add_mul, Nat.one_mul, List.range_add, List.map_append]
    congr 1
    rw [List.map_map]
    refine List.ext_getElem? fun i => ?_
    rw [List.getElem?_map]
    by_cases hi : i < cs.length
    · rw [List.getElem?_range hi]
      have e : (m * cs.length + i) % cs.length = i := by rw [Nat.mul_comm, Nat.mul_add_mod]; exact Nat.mod_eq_of_lt hi
      simp [e, hi]
    · rw [List.getElem?_eq_none (by simp; omega)]
      simp
      omega
end Go.Proofs.YtjianickjahdnaaDoor
