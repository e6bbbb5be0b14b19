/-
  heap.Own of an object that is no array.
  heap.Put of a property (an object that is no array).
  Rows of flat data in fields, changed in place or made anew; zeros appended to a row.
  slices.Delete of values, of properties.
  Lists of strings that a function makes; a heap and such a list side by side.
-/
import Derived.Test.YtjianickjahdnaaDoorPHeapFulle
import Derived.IntWalk
import Derived.Test.YtjianickjahdnaaDoorPHeapFulld
import Derived.Deep.RegionLaw
namespace Go.Proofs.YtjianickjahdnaaDoor
open Go.RowKit
set_option linter.unusedVariables false
set_option linter.unusedSimpArgs false

set_option maxHeartbeats 6400000 in
set_option maxRecDepth 100000 in
theorem own_not (w : World) (b : Nat) (hp : Hp) (F : List Nat) (h : Int) (i : Nat) (key : ByteArray) (H : Here hpR w b 0 hp F) (hi : -9223372036854775808 ≤ h ∧ h ≤ 9223372036854775807) (hs : slotOf hp h = some i) (hl : i < hp.slots.length) (hk : hp.slots[i].obj.kind ≠ 1)
    (hf : findP key hp.slots[i].obj.props 0 = none) :
    Calls Tryd.prog 23 #[.pointer (some ⟨b, 0, none⟩), .int .i64 h, .string key] w fun e w' => e = .returned (.tuple #[.agg #[.int .i64 0, .int .i64 0, .string ⟨#[]⟩, .int .i64 0], .bool false]) ∧ Chg (fun _ => False) w w' := by
  have hca := Chg.alloc (fun _ => False) w (.cells #[.int .i64 0, .int .i64 0, .string ⟨#[]⟩, .int .i64 0] 36)
  have kb := alloc_block w (.cells #[.int .i64 0, .int .i64 0, .string ⟨#[]⟩, .int .i64 0] 36)
  have HKB := Lib.hid kb
  obtain ⟨gh, oh, kh, c2, G, HOBJ0, hGF, hput⟩ := hpPut H hl
  obtain ⟨vp, ve, vd, vs, HOC⟩ := objOpen HOBJ0
  have z1 : (hp.slots[i].obj.kind == 1) = false := beq_false_of_ne hk
  have hat := hat_any _ b 0 hp F h _ (H.still hca) (by rw [Nat.zero_add]; exact hca.cell c2) hi
  rw [hs, show objPtr (.slice (some ⟨gh, oh, none⟩) hp.slots.length kh) (some i) = some ⟨gh, oh + i * 11 + 1, none⟩ from rfl] at hat
  have HAT := Lib.hid hat
  have HC0 := Lib.hid HOC.c0
  have HC2 := Lib.hid HOC.c2
  have HRP := Lib.hid HOC.rp
  generalize hp.slots[i].obj = x at *
  have HCA := Lib.hid hca
  have HF := Lib.hid hf
  clear kb hca HOBJ0 hGF hput HOC c2 hi hs H hk hat hf
  go_enter Tryd.func23, Tryd.ntmps23
  go_upto_region 1 with fail
  generalize w.alloc (.cells #[.int .i64 0, .int .i64 0, .string ⟨#[]⟩, .int .i64 0] 36) = w1 at *
  generalize hb6 : w.heap.size = b6 at *
  have HB6 := Lib.hid hb6
  clear hb6
  go_upto_region 4 with (go_at_call 35; refine HAT.out.mono ?_; rintro e wa ⟨rfl, hca⟩)
  have HC1 := Lib.hid (HCA.out.trans' hca)
  have HKB2 := Lib.hid (hca.keep HKB.out (fun x => x))
  have c0 := HC1.out.cell HC0.out
  have HPL := Lib.hid (place_any wa gh (oh + i * 11 + 1) _ x.props key (HC1.out.cell HC2.out) (HRP.out.chg HC1.out (fun _ _ x => x)))
  rw [HF.out] at HPL
  clear hca HAT HKB HCA
  go_upto_region 13 with (go_at_call 43; refine HPL.out.mono ?_; rintro e w5 ⟨rfl, hc5⟩)
  have HC5 := Lib.hid (HC1.out.trans' hc5)
  have HK5 := Lib.hid (hc5.keep HKB2.out (fun x => x))
  clear hc5 HPL c0 z1
  rw [show idxP none = -1 from rfl]
  obtain ⟨z0, q0, z1, q1, z2, q2, z3, q3, hbf, hcs⟩ := store4 HK5.out (.int .i64 0) (.int .i64 0) (.string ⟨#[]⟩) (.int .i64 0)
  go_wp2_with fail
  generalize ((((w5.setCell ⟨b6, 0, none⟩ (.int .i64 0)).setCell ⟨b6, 1, none⟩ (.int .i64 0)).setCell ⟨b6, 2, none⟩ (.string ⟨#[]⟩)).setCell ⟨b6, 3, none⟩ (.int .i64 0)) = wz at *
  refine bodyPost_ret (results_cell_row_tmp rfl _ _ b6 #[.int .i64 0, .int .i64 0, .string ⟨#[]⟩, .int .i64 0] (by rfl) (run_loadVar_row _ b6 36 36 _ _ _ hbf Tryd.underlying36 rfl (by kernel_rfl))) rfl ?_
  exact ⟨rfl, HC5.out.trans hcs (fun _ _ x => x) (fun k hk e => by have := HB6.out; omega)⟩
set_option maxHeartbeats 6400000 in
set_option maxRecDepth 100000 in
theorem own_has (w : World) (b : Nat) (hp : Hp) (F : List Nat) (h : Int) (i : Nat) (key : ByteArray) (j : Nat) (H : Here hpR w b 0 hp F) (hi : -9223372036854775808 ≤ h ∧ h ≤ 9223372036854775807) (hs : slotOf hp h = some i) (hl : i < hp.slots.length) (hk : hp.slots[i].obj.kind ≠ 1)
    (hf : findP key hp.slots[i].obj.props 0 = some j) (hj : j < hp.slots[i].obj.props.length) (hlp : hp.slots[i].obj.props.length ≤ 1000000) :
    Calls Tryd.prog 23 #[.pointer (some ⟨b, 0, none⟩), .int .i64 h, .string key] w fun e w' => e = .returned (.tuple #[.agg #[.int .i64 hp.slots[i].obj.props[j].vkind, .int .i64 hp.slots[i].obj.props[j].vint, .string hp.slots[i].obj.props[j].vstr, .int .i64 hp.slots[i].obj.props[j].vref], .bool true]) ∧ Chg (fun _ => False) w w' := by
  have hca := Chg.alloc (fun _ => False) w (.cells #[.int .i64 0, .int .i64 0, .string ⟨#[]⟩, .int .i64 0] 36)
  have kb := alloc_block w (.cells #[.int .i64 0, .int .i64 0, .string ⟨#[]⟩, .int .i64 0] 36)
  have HKB := Lib.hid kb
  obtain ⟨gh, oh, kh, c2, G, HOBJ0, hGF, hput⟩ := hpPut H hl
  obtain ⟨vp, ve, vd, vs, HOC⟩ := objOpen HOBJ0
  have z1 : (hp.slots[i].obj.kind == 1) = false := beq_false_of_ne hk
  have hat := hat_any _ b 0 hp F h _ (H.still hca) (by rw [Nat.zero_add]; exact hca.cell c2) hi
  rw [hs, show objPtr (.slice (some ⟨gh, oh, none⟩) hp.slots.length kh) (some i) = some ⟨gh, oh + i * 11 + 1, none⟩ from rfl] at hat
  have HAT := Lib.hid hat
  have HC0 := Lib.hid HOC.c0
  have HC2 := Lib.hid HOC.c2
  have HRP := Lib.hid HOC.rp
  generalize hp.slots[i].obj = x at *
  have HCA := Lib.hid hca
  have HF := Lib.hid hf
  clear kb hca HOBJ0 hGF hput HOC c2 hi hs H hk hat hf
  go_enter Tryd.func23, Tryd.ntmps23
  go_upto_region 1 with fail
  generalize w.alloc (.cells #[.int .i64 0, .int .i64 0, .string ⟨#[]⟩, .int .i64 0] 36) = w1 at *
  generalize hb6 : w.heap.size = b6 at *
  have HB6 := Lib.hid hb6
  clear hb6
  go_upto_region 4 with (go_at_call 35; refine HAT.out.mono ?_; rintro e wa ⟨rfl, hca⟩)
  have HC1 := Lib.hid (HCA.out.trans' hca)
  have HKB2 := Lib.hid (hca.keep HKB.out (fun x => x))
  have c0 := HC1.out.cell HC0.out
  have HPL := Lib.hid (place_any wa gh (oh + i * 11 + 1) _ x.props key (HC1.out.cell HC2.out) (HRP.out.chg HC1.out (fun _ _ x => x)))
  rw [HF.out] at HPL
  clear hca HAT HKB HCA
  go_upto_region 13 with (go_at_call 43; refine HPL.out.mono ?_; rintro e w5 ⟨rfl, hc5⟩)
  have HC5 := Lib.hid (HC1.out.trans' hc5)
  have HK5 := Lib.hid (hc5.keep HKB2.out (fun x => x))
  have c2 := HC5.out.cell HC2.out
  clear hc5 HPL c0 z1
  rw [show idxP (some j) = (j : Int) from rfl]
  have hr2 := HRP.out.chg HC5.out (fun _ _ x => x)
  obtain ⟨gp, opp, cp, rfl, -, -⟩ := hr2.addr (by omega)
  have hcells : ∀ t u, x.props[j].cells[t]? = some u → t < 5 → w5.cell? ⟨gp, opp + j * 5 + t, none⟩ = some u := fun t u hu ht => by
    rw [Nat.add_assoc]
    exact hr2.cellAt (j * 5 + t) u (by rw [flat_get _ 5 Prp.len x.props j t hj ht]; exact hu)
  have p1 := hcells 1 _ rfl (by omega)
  have p2 := hcells 2 _ rfl (by omega)
  have p3 := hcells 3 _ rfl (by omega)
  have p4 := hcells 4 _ rfl (by omega)
  have j0 : (0 : Int) ≤ (j : Int) := by omega
  have j1 : (j : Int) < (x.props.length : Int) := by omega
  obtain ⟨z0, q0, z1, q1, z2, q2, z3, q3, hbf, hcs⟩ := store4 HK5.out (.int .i64 x.props[j].vkind) (.int .i64 x.props[j].vint) (.string x.props[j].vstr) (.int .i64 x.props[j].vref)
  clear hcells hr2
  go_wp2_with fail
  generalize ((((w5.setCell ⟨b6, 0, none⟩ (.int .i64 x.props[j].vkind)).setCell ⟨b6, 1, none⟩ (.int .i64 x.props[j].vint)).setCell ⟨b6, 2, none⟩ (.string x.props[j].vstr)).setCell ⟨b6, 3, none⟩ (.int .i64 x.props[j].vref)) = wz at *
  refine bodyPost_ret (results_cell_row_tmp rfl _ _ b6 #[.int .i64 x.props[j].vkind, .int .i64 x.props[j].vint, .string x.props[j].vstr, .int .i64 x.props[j].vref] (by rfl) (run_loadVar_row _ b6 36 36 _ _ _ hbf Tryd.underlying36 rfl (by kernel_rfl))) rfl ?_
  exact ⟨rfl, HC5.out.trans hcs (fun _ _ x => x) (fun k hk e => by have := HB6.out; omega)⟩
set_option maxHeartbeats 6400000 in
set_option maxRecDepth 100000 in
theorem own_nil (w : World) (b : Nat) (hp : Hp) (F : List Nat) (h : Int) (key : ByteArray) (H : Here hpR w b 0 hp F) (hi : -9223372036854775808 ≤ h ∧ h ≤ 9223372036854775807) (hs : slotOf hp h = none) :
    Calls Tryd.prog 23 #[.pointer (some ⟨b, 0, none⟩), .int .i64 h, .string key] w fun e w' => e = .returned (.tuple #[.agg #[.int .i64 0, .int .i64 0, .string ⟨#[]⟩, .int .i64 0], .bool false]) ∧ Chg (fun _ => False) w w' := by
  have hca := Chg.alloc (fun _ => False) w (.cells #[.int .i64 0, .int .i64 0, .string ⟨#[]⟩, .int .i64 0] 36)
  have kb := alloc_block w (.cells #[.int .i64 0, .int .i64 0, .string ⟨#[]⟩, .int .i64 0] 36)
  have HKB := Lib.hid kb
  obtain ⟨-, -, ⟨a, cap, c2⟩, -⟩ := hpCells H
  have hat := hat_any _ b 0 hp F h _ (H.still hca) (hca.cell c2) hi
  rw [hs, show objPtr (.slice a hp.slots.length cap) none = none by unfold objPtr; split <;> simp_all] at hat
  have HAT := Lib.hid hat
  have HCA := Lib.hid hca
  clear kb hca c2 hi hs H hat
  go_enter Tryd.func23, Tryd.ntmps23
  go_upto_region 1 with fail
  generalize w.alloc (.cells #[.int .i64 0, .int .i64 0, .string ⟨#[]⟩, .int .i64 0] 36) = w1 at *
  generalize hb6 : w.heap.size = b6 at *
  have HB6 := Lib.hid hb6
  clear hb6
  go_upto_region 2 with (go_at_call 35; refine HAT.out.mono ?_; rintro e wa ⟨rfl, hca⟩)
  have HC1 := Lib.hid (HCA.out.trans' hca)
  have HK5 := Lib.hid (hca.keep HKB.out (fun x => x))
  clear hca HAT HKB HCA
  obtain ⟨z0, q0, z1, q1, z2, q2, z3, q3, hbf, hcs⟩ := store4 HK5.out (.int .i64 0) (.int .i64 0) (.string ⟨#[]⟩) (.int .i64 0)
  go_wp2_with fail
  generalize ((((wa.setCell ⟨b6, 0, none⟩ (.int .i64 0)).setCell ⟨b6, 1, none⟩ (.int .i64 0)).setCell ⟨b6, 2, none⟩ (.string ⟨#[]⟩)).setCell ⟨b6, 3, none⟩ (.int .i64 0)) = wz at *
  refine bodyPost_ret (results_cell_row_tmp rfl _ _ b6 #[.int .i64 0, .int .i64 0, .string ⟨#[]⟩, .int .i64 0] (by rfl) (run_loadVar_row _ b6 36 36 _ _ _ hbf Tryd.underlying36 rfl (by kernel_rfl))) rfl ?_
  exact ⟨rfl, HC1.out.trans hcs (fun _ _ x => x) (fun k hk e => by have := HB6.out; omega)⟩
end Go.Proofs.YtjianickjahdnaaDoor
namespace Go.Proofs.YtjianickjahdnaaDoor
open Go.RowKit
set_option linter.unusedVariables false
set_option linter.unusedSimpArgs false

/-- Four cells of a block stored one after the other. -/
theorem store4At {w : World} {g T o : Nat} {c : Array Value} (b0 : w.heap[g]? = some (.cells c T (0, 0))) (hc : o + 4 ≤ c.size) (v0 v1 v2 v3 : Value) : ∃ u0 u1 u2 u3,
    (w.cell? ⟨g, o, none⟩ = some u0 ∧ w.frozen? ⟨g, o, none⟩ = false) ∧
    ((w.setCell ⟨g, o, none⟩ v0).cell? ⟨g, o + 1, none⟩ = some u1 ∧ (w.setCell ⟨g, o, none⟩ v0).frozen? ⟨g, o + 1, none⟩ = false) ∧
    (((w.setCell ⟨g, o, none⟩ v0).setCell ⟨g, o + 1, none⟩ v1).cell? ⟨g, o + 2, none⟩ = some u2 ∧ ((w.setCell ⟨g, o, none⟩ v0).setCell ⟨g, o + 1, none⟩ v1).frozen? ⟨g, o + 2, none⟩ = false) ∧
    ((((w.setCell ⟨g, o, none⟩ v0).setCell ⟨g, o + 1, none⟩ v1).setCell ⟨g, o + 2, none⟩ v2).cell? ⟨g, o + 3, none⟩ = some u3 ∧ (((w.setCell ⟨g, o, none⟩ v0).setCell ⟨g, o + 1, none⟩ v1).setCell ⟨g, o + 2, none⟩ v2).frozen? ⟨g, o + 3, none⟩ = false) := by
  have b1 := setCell_block (i := o) v0 b0
  have b2 := setCell_block (i := o + 1) v1 b1
  have b3 := setCell_block (i := o + 2) v2 b2
  have get : ∀ (d : Array Value) (k : Nat), k < d.size → d[k]? = some d[k]! := fun d k hk => by
    rw [Array.getElem?_eq_getElem hk]; simp [hk]
  exact ⟨_, _, _, _, ⟨cell_of_block b0 (get _ _ (by omega)), frozen_of_block b0⟩, ⟨cell_of_block b1 (get _ _ (by simp; omega)), frozen_of_block b1⟩, ⟨cell_of_block b2 (get _ _ (by simp; omega)), frozen_of_block b2⟩, ⟨cell_of_block b3 (get _ _ (by simp; omega)), frozen_of_block b3⟩⟩
set_option maxHeartbeats 6400000 in
set_option maxRecDepth 100000 in
theorem put_new (w : World) (b : Nat) (hp : Hp) (F : List Nat) (h : Int) (i : Nat) (key : ByteArray) (x y : Val) (H : Here hpR w b 0 hp F) (hi : -9223372036854775808 ≤ h ∧ h ≤ 9223372036854775807) (hs : slotOf hp h = some i) (hl : i < hp.slots.length) (hk : hp.slots[i].obj.kind ≠ 1)
    (HN : ∀ W, Chg (fun _ => False) w W → Calls Tryd.prog 37 #[.agg #[.int .i64 x.kind, .int .i64 x.int, .string x.str, .int .i64 x.ref]] W fun e w' => e = .returned (.agg #[.int .i64 y.kind, .int .i64 y.int, .string y.str, .int .i64 y.ref]) ∧ Chg (fun _ => False) W w') (hf : findP key hp.slots[i].obj.props 0 = none) (hlp : hp.slots[i].obj.props.length < 10000) :
    Calls Tryd.prog 24 #[.pointer (some ⟨b, 0, none⟩), .int .i64 h, .string key, .agg #[.int .i64 x.kind, .int .i64 x.int, .string x.str, .int .i64 x.ref]] w fun e w' => e = .returned (.int .i64 0) ∧ Post hpR w b 0 (putO hp i { hp.slots[i].obj with props := hp.slots[i].obj.props ++ [⟨key, y.kind, y.int, y.str, y.ref⟩] }) F w' := by
  have hca := Chg.alloc (fun _ => False) w (.cells #[.int .i64 x.kind, .int .i64 x.int, .string x.str, .int .i64 x.ref] 36)
  have kb := alloc_block w (.cells #[.int .i64 x.kind, .int .i64 x.int, .string x.str, .int .i64 x.ref] 36)
  have HKB := Lib.hid kb
  have H2 := H.still hca
  obtain ⟨gh, oh, kh, c2, G, HOBJ0, hGF, hput⟩ := hpPut H hl
  obtain ⟨vp, ve, vd, vs, HOC⟩ := objOpen HOBJ0
  obtain ⟨p, cap, rfl, -⟩ := HOC.rp.slice
  have hrlt := HOC.rp.lt
  have c0 := HOC.c0
  have z1 : (hp.slots[i].obj.kind == 1) = false := beq_false_of_ne hk
  have hat := hat_any _ b 0 hp F h _ H2 (by rw [Nat.zero_add]; exact hca.cell c2) hi
  rw [hs, show objPtr (.slice (some ⟨gh, oh, none⟩) hp.slots.length kh) (some i) = some ⟨gh, oh + i * 11 + 1, none⟩ from rfl] at hat
  have HAT := Lib.hid hat
  have HNN := Lib.hid HN
  have HC2 := Lib.hid HOC.c2
  have HRP := Lib.hid HOC.rp
  generalize hx : hp.slots[i].obj = o_ at *
  have HX := Lib.hid hx
  have HC0 := Lib.hid c0
  have HCA := Lib.hid hca
  have HOB := Lib.hid HOBJ0
  have HPT := Lib.hid hput
  have HRLT := Lib.hid hrlt
  have HBS : Hid (∀ k ∈ G, k < w.heap.size) := Lib.hid (fun k hk => H.lt.2 k (hGF k hk))
  clear kb hca H2 c2 HOBJ0 hrlt hGF hput HOC c0 hi hs H hx hk hat HN
  go_enter Tryd.func24, Tryd.ntmps24
  go_upto_region 1 with fail
  generalize hw2 : w.alloc (.cells #[.int .i64 x.kind, .int .i64 x.int, .string x.str, .int .i64 x.ref] 36) = w1 at *
  generalize hb7 : w.heap.size = b7 at *
  have HB7E := Lib.hid hb7
  clear hw2 hb7
  go_upto_region 4 with (go_at_call 35; refine HAT.out.mono ?_; rintro e wa ⟨rfl, hca⟩)
  have HC1 := Lib.hid (HCA.out.trans' hca)
  have HKB2 := Lib.hid (hca.keep HKB.out (fun x => x))
  have k0 := cell_of_block (i := 0) HKB2.out rfl
  have k1 := cell_of_block (i := 1) HKB2.out rfl
  have k2 := cell_of_block (i := 2) HKB2.out rfl
  have k3 := cell_of_block (i := 3) HKB2.out rfl
  simp only [List.getElem_toArray, List.getElem_cons_zero, List.getElem_cons_succ] at k0 k1 k2 k3
  clear hca HAT HKB
  go_upto_region 5 with (go_at_call 37; refine (HNN.out _ HC1.out).mono ?_; rintro e wn ⟨rfl, hcn⟩; have hbn := hcn.keep HKB2.out (fun x => x); obtain ⟨z10, q0, z11, q1, z12, q2, z13, q3, hbf, hcs⟩ := store4 hbn (.int .i64 y.kind) (.int .i64 y.int) (.string y.str) (.int .i64 y.ref))
  have HB7 := Lib.hid hbf
  have hc4 : Chg (fun _ => False) w (((((wn.setCell ⟨b7, 0, none⟩ (.int .i64 y.kind)).setCell ⟨b7, 1, none⟩ (.int .i64 y.int)).setCell ⟨b7, 2, none⟩ (.string y.str)).setCell ⟨b7, 3, none⟩ (.int .i64 y.ref))) := (HC1.out.trans' hcn).trans hcs (fun _ _ x => x) (fun k hk e => by have := HB7E.out; omega)
  clear hbf hcs hcn hbn z10 q0 z11 q1 z12 q2 z13 q3 k0 k1 k2 k3
  generalize ((((wn.setCell ⟨b7, 0, none⟩ (.int .i64 y.kind)).setCell ⟨b7, 1, none⟩ (.int .i64 y.int)).setCell ⟨b7, 2, none⟩ (.string y.str)).setCell ⟨b7, 3, none⟩ (.int .i64 y.ref)) = w4 at *
  have c0 := hc4.cell HC0.out
  have HPL := Lib.hid (place_any w4 gh (oh + i * 11 + 1) _ o_.props key (hc4.cell HC2.out) (HRP.out.chg hc4 (fun _ _ x => x)))
  have HF := Lib.hid hf
  have HC4 := Lib.hid hc4
  clear hc4 hf HNN HKB2 HC1 HCA
  rw [HF.out] at HPL
  go_upto_region 18 with (go_at_call 43; refine HPL.out.mono ?_; rintro e w5 ⟨rfl, hc5⟩)
  have HC5 := Lib.hid (HC4.out.trans' hc5)
  have HY7 := Lib.hid (hc5.keep HB7.out (fun x => x))
  have c2 := HC5.out.cell HC2.out
  clear hc5 HPL c0 z1
  have HOB5 := Lib.hid (HOB.out.still HC5.out)
  have n0 := cell_of_block (i := 0) HY7.out rfl
  have n1 := cell_of_block (i := 1) HY7.out rfl
  have n2 := cell_of_block (i := 2) HY7.out rfl
  have n3 := cell_of_block (i := 3) HY7.out rfl
  simp only [List.getElem_toArray, List.getElem_cons_zero, List.getElem_cons_succ] at n0 n1 n2 n3
  have HS0 : Hid (w5.cell? ⟨gh, oh + i * 11 + 1 + 2, none⟩ = some (.slice p o_.props.length cap) ∧ w5.cell? ⟨b7, 0, none⟩ = some (.int .i64 y.kind) ∧ w5.cell? ⟨b7, 1, none⟩ = some (.int .i64 y.int) ∧ w5.cell? ⟨b7, 2, none⟩ = some (.string y.str) ∧ w5.cell? ⟨b7, 3, none⟩ = some (.int .i64 y.ref)) := Lib.hid ⟨c2, n0, n1, n2, n3⟩
  clear n0 n1 n2 n3
  have pl : (o_.props.length : Int) < 10000 := by omega
  have HLE := Lib.hid hlp
  clear hlp
  rw [show idxP none = -1 from rfl]
  obtain ⟨p', cap', xs', Fs, Fr, c2', hopen, ff0, hstay, hback⟩ := HOB5.out.fieldAppending objR_props (by show 0 < 10; decide)
  have hpe : p' = p ∧ cap' = cap := by
    rw [c2] at c2'
    cases c2'
    exact ⟨rfl, rfl⟩
  obtain ⟨rfl, rfl⟩ := hpe
  clear c2'
  have HE := Lib.hid elem_prop
  have HST := Lib.hid hstay
  have HBA := Lib.hid hback
  have HOPN := Lib.hid hopen
  have HN1 : Hid (¬ (Value.slice p' o_.props.length cap').ownBlock = some b7) := Lib.hid (fun hj => by
    have h2 := HRLT.out b7 hj
    have := HB7E.out
    omega)
  clear hstay hback hopen ff0
  go_upto_region 23 with fail
  clear c2 pl
  refine wp_region_held_split 12 (fun w' => w'.cell? ⟨gh, oh + i * 11 + 1 + 2, none⟩ = some (.slice p' o_.props.length cap') ∧ w'.cell? ⟨b7, 0, none⟩ = some (.int .i64 y.kind) ∧ w'.cell? ⟨b7, 1, none⟩ = some (.int .i64 y.int) ∧ w'.cell? ⟨b7, 2, none⟩ = some (.string y.str) ∧ w'.cell? ⟨b7, 3, none⟩ = some (.int .i64 y.ref)) (by kernel_rfl) (by kernel_rfl) ?_ (fun hHeld => ?_)
  · (first | exact HS0.out | exact HKS.out _ (Chg.refl _ _) | exact HKS.out _ (Chg.alloc _ _ _) | exact ⟨cc2, hchg2.cellS (HKS.out _ (Chg.alloc _ wD (.cells #[.string key, .int .i64 y.kind, .int .i64 y.int, .string y.str, .int .i64 y.ref] 86))).2.1 HN1.out, hchg2.cellS (HKS.out _ (Chg.alloc _ wD (.cells #[.string key, .int .i64 y.kind, .int .i64 y.int, .string y.str, .int .i64 y.ref] 86))).2.2.1 HN1.out, hchg2.cellS (HKS.out _ (Chg.alloc _ wD (.cells #[.string key, .int .i64 y.kind, .int .i64 y.int, .string y.str, .int .i64 y.ref] 86))).2.2.2.1 HN1.out, hchg2.cellS (HKS.out _ (Chg.alloc _ wD (.cells #[.string key, .int .i64 y.kind, .int .i64 y.int, .string y.str, .int .i64 y.ref] 86))).2.2.2.2 HN1.out⟩)
  simp only [List.take_succ_cons, List.take_zero]
  have HKS : Hid (∀ W, Chg (fun _ => False) w5.drew W → W.cell? ⟨gh, oh + i * 11 + 1 + 2, none⟩ = some (.slice p' o_.props.length cap') ∧ W.cell? ⟨b7, 0, none⟩ = some (.int .i64 y.kind) ∧ W.cell? ⟨b7, 1, none⟩ = some (.int .i64 y.int) ∧ W.cell? ⟨b7, 2, none⟩ = some (.string y.str) ∧ W.cell? ⟨b7, 3, none⟩ = some (.int .i64 y.ref)) := Lib.hid (fun W hc => ⟨hc.cell HS0.out.1, hc.cell HS0.out.2.1, hc.cell HS0.out.2.2.1, hc.cell HS0.out.2.2.2.1, hc.cell HS0.out.2.2.2.2⟩)
  have HWD : Hid (Chg (fun _ => False) w5 w5.drew) := Lib.hid (Chg.refl _ w5).drewR
  have HRA : Hid (RowAt w5.drew 86 5 (.slice p' o_.props.length cap') o_.props.length xs'.flatten) := Lib.hid HOPN.out.row.drew
  generalize w5.drew = wD at *
  refine wpAnyH_take (i := 0) (v := ?_) rfl (by kernel_rfl) (by kernel_rfl) (by kernel_rfl) (fun _ _ _ h => h) (Or.inl ⟨by rfl, ?_⟩) (by assumption) ?_
  rotate_left
  · (intro wq hSw; (try dsimp only at hSw); go_simp; (try with_reducible rfl))
  simp only [Act.put, List.getElem_toArray, List.getElem_cons_zero, List.getElem_cons_succ, List.setIfInBounds_toArray, List.set_cons_zero, List.set_cons_succ]
  refine wpAnyH_take (i := 1) (v := ?_) rfl (by kernel_rfl) (by kernel_rfl) (by kernel_rfl) (fun _ _ _ h => h) (Or.inl ⟨by rfl, ?_⟩) (by assumption) ?_
  rotate_left
  · (intro wq hSw; (try dsimp only at hSw); go_simp; (try with_reducible rfl))
  simp only [Act.put, List.getElem_toArray, List.getElem_cons_zero, List.getElem_cons_succ, List.setIfInBounds_toArray, List.set_cons_zero, List.set_cons_succ]
  refine wpAnyH_take (i := 2) (v := ?_) rfl (by kernel_rfl) (by kernel_rfl) (by kernel_rfl) (fun _ _ _ h => h) (Or.inl ⟨by rfl, ?_⟩) (by assumption) ?_
  rotate_left
  · (intro wq hSw; (try dsimp only at hSw); go_simp; (try with_reducible rfl))
  simp only [Act.put, List.getElem_toArray, List.getElem_cons_zero, List.getElem_cons_succ, List.setIfInBounds_toArray, List.set_cons_zero, List.set_cons_succ]
  refine wpAnyH_take (i := 3) (v := ?_) rfl (by kernel_rfl) (by kernel_rfl) (by kernel_rfl) (fun _ _ _ h => h) (Or.inl ⟨by rfl, ?_⟩) (by assumption) ?_
  rotate_left
  · (intro wq hSw; (try dsimp only at hSw); go_simp; (try with_reducible rfl))
  simp only [Act.put, List.getElem_toArray, List.getElem_cons_zero, List.getElem_cons_succ, List.setIfInBounds_toArray, List.set_cons_zero, List.set_cons_succ]
  refine wpAnyH_take (i := 4) (v := ?_) rfl (by kernel_rfl) (by kernel_rfl) (by kernel_rfl) (fun _ _ _ h => h) (Or.inl ⟨by rfl, ?_⟩) (by assumption) ?_
  rotate_left
  · (intro wq hSw; (try dsimp only at hSw); go_simp; (try with_reducible rfl))
  simp only [Act.put, List.getElem_toArray, List.getElem_cons_zero, List.getElem_cons_succ, List.setIfInBounds_toArray, List.set_cons_zero, List.set_cons_succ]
  refine wpAnyH_take (i := 5) (v := ?_) rfl (by kernel_rfl) (by kernel_rfl) (by kernel_rfl) (fun _ _ _ h => h) (Or.inl ⟨by rfl, ?_⟩) (by assumption) ?_
  rotate_left
  · (intro wq hSw; (try dsimp only at hSw); go_simp; (try with_reducible rfl))
  simp only [Act.put, List.getElem_toArray, List.getElem_cons_zero, List.getElem_cons_succ, List.setIfInBounds_toArray, List.set_cons_zero, List.set_cons_succ]
  refine wpAnyH_take (i := 6) (v := ?_) rfl (by kernel_rfl) (by kernel_rfl) (by kernel_rfl) (fun _ _ _ h => h) (Or.inl ⟨by rfl, ?_⟩) (by assumption) ?_
  rotate_left
  · (intro wq hSw; (try dsimp only at hSw); go_simp; (try with_reducible rfl))
  simp only [Act.put, List.getElem_toArray, List.getElem_cons_zero, List.getElem_cons_succ, List.setIfInBounds_toArray, List.set_cons_zero, List.set_cons_succ]
  refine wpAnyH_take (i := 7) (v := ?_) rfl (by kernel_rfl) (by kernel_rfl) (by kernel_rfl) (fun _ _ _ h => h) (Or.inl ⟨by rfl, ?_⟩) (by assumption) ?_
  rotate_left
  · (intro wq hSw; (try dsimp only at hSw); go_simp; (try with_reducible rfl))
  simp only [Act.put, List.getElem_toArray, List.getElem_cons_zero, List.getElem_cons_succ, List.setIfInBounds_toArray, List.set_cons_zero, List.set_cons_succ]
  refine wpAnyH_ready (rs := [8]) (by kernel_rfl) (by simp) ?_
  refine AllReadyH.cons (by simp only [List.getElem?_toArray, List.getElem?_cons_succ, List.getElem?_cons_zero]; rfl) (fun K hK => ?_) AllReadyH.nil
  go_simp
  refine hK.out _ _ ?_ (fun hHeld => ?_)
  · (first | exact HS0.out | exact HKS.out _ (Chg.refl _ _) | exact HKS.out _ (Chg.alloc _ _ _) | exact ⟨cc2, hchg2.cellS (HKS.out _ (Chg.alloc _ wD (.cells #[.string key, .int .i64 y.kind, .int .i64 y.int, .string y.str, .int .i64 y.ref] 86))).2.1 HN1.out, hchg2.cellS (HKS.out _ (Chg.alloc _ wD (.cells #[.string key, .int .i64 y.kind, .int .i64 y.int, .string y.str, .int .i64 y.ref] 86))).2.2.1 HN1.out, hchg2.cellS (HKS.out _ (Chg.alloc _ wD (.cells #[.string key, .int .i64 y.kind, .int .i64 y.int, .string y.str, .int .i64 y.ref] 86))).2.2.2.1 HN1.out, hchg2.cellS (HKS.out _ (Chg.alloc _ wD (.cells #[.string key, .int .i64 y.kind, .int .i64 y.int, .string y.str, .int .i64 y.ref] 86))).2.2.2.2 HN1.out⟩)
  clear hK K
  (try simp only [Act.put, List.getElem_toArray, List.getElem_cons_zero, List.getElem_cons_succ, List.setIfInBounds_toArray, List.set_cons_zero, List.set_cons_succ])
  refine wpAnyH_ready (rs := [9]) (by kernel_rfl) (by simp) ?_
  refine AllReadyH.cons (by simp only [List.getElem?_toArray, List.getElem?_cons_succ, List.getElem?_cons_zero]; rfl) (fun K hK => ?_) AllReadyH.nil
  (refine step_append_elem (by rfl) _ _ _ (by rfl) 86 5 56 Tryd.underlying43 HE.out (by decide) _ o_.props.length xs'.flatten (by rfl) (HRA.out.alloc (.cells #[.string key, .int .i64 y.kind, .int .i64 y.int, .string y.str, .int .i64 y.ref] 86)) [.string key, .int .i64 y.kind, .int .i64 y.int, .string y.str, .int .i64 y.ref] rfl wD.heap.size 86 (0, 0) (by rfl) (alloc_block wD _) (by simp [Value.oneCell']) (by have := HLE.out; unfold maxLen; omega) (by have := HLE.out; omega) ?_; intro a2 n2 cp2 w2_ hrow2 hchg2 hold2; have cc2 := (HST.out _ _ (HWD.out.allocR (.cells #[.string key, .int .i64 y.kind, .int .i64 y.int, .string y.str, .int .i64 y.ref] 86)) hchg2).1; have f2 := (HST.out _ _ (HWD.out.allocR (.cells #[.string key, .int .i64 y.kind, .int .i64 y.int, .string y.str, .int .i64 y.ref] 86)) hchg2).2)
  refine hK.out _ _ ?_ (fun hHeld => ?_)
  · (first | exact HS0.out | exact HKS.out _ (Chg.refl _ _) | exact HKS.out _ (Chg.alloc _ _ _) | exact ⟨cc2, hchg2.cellS (HKS.out _ (Chg.alloc _ wD (.cells #[.string key, .int .i64 y.kind, .int .i64 y.int, .string y.str, .int .i64 y.ref] 86))).2.1 HN1.out, hchg2.cellS (HKS.out _ (Chg.alloc _ wD (.cells #[.string key, .int .i64 y.kind, .int .i64 y.int, .string y.str, .int .i64 y.ref] 86))).2.2.1 HN1.out, hchg2.cellS (HKS.out _ (Chg.alloc _ wD (.cells #[.string key, .int .i64 y.kind, .int .i64 y.int, .string y.str, .int .i64 y.ref] 86))).2.2.2.1 HN1.out, hchg2.cellS (HKS.out _ (Chg.alloc _ wD (.cells #[.string key, .int .i64 y.kind, .int .i64 y.int, .string y.str, .int .i64 y.ref] 86))).2.2.2.2 HN1.out⟩)
  clear hK K
  (try simp only [Act.put, List.getElem_toArray, List.getElem_cons_zero, List.getElem_cons_succ, List.setIfInBounds_toArray, List.set_cons_zero, List.set_cons_succ])
  refine wpAnyH_take (i := 10) (v := ?_) rfl (by kernel_rfl) (by kernel_rfl) (by kernel_rfl) (fun _ _ _ h => h) (Or.inl ⟨by rfl, ?_⟩) (by assumption) ?_
  rotate_left
  · (intro wq hSw; (try dsimp only at hSw); go_simp; (try with_reducible rfl))
  simp only [Act.put, List.getElem_toArray, List.getElem_cons_zero, List.getElem_cons_succ, List.setIfInBounds_toArray, List.set_cons_zero, List.set_cons_succ]
  refine wpAnyH_take (i := 11) (v := ?_) rfl (by kernel_rfl) (by kernel_rfl) (by kernel_rfl) (fun _ _ _ h => h) (Or.inl ⟨by rfl, ?_⟩) (by assumption) ?_
  rotate_left
  · (intro wq hSw; (try dsimp only at hSw); go_simp; (try with_reducible rfl))
  simp only [Act.put, List.getElem_toArray, List.getElem_cons_zero, List.getElem_cons_succ, List.setIfInBounds_toArray, List.set_cons_zero, List.set_cons_succ]
  refine wpAnyH_done (by kernel_rfl) ?_ _
  change wpList _ _ _ _ _ _
  simp only [List.drop_succ_cons, List.drop_zero]
  have P9 := HBA.out _ _ [.string key, .int .i64 y.kind, .int .i64 y.int, .string y.str, .int .i64 y.ref] ⟨key, y.kind, y.int, y.str, y.ref⟩ [] _ (HWD.out.allocR (.cells #[.string key, .int .i64 y.kind, .int .i64 y.int, .string y.str, .int .i64 y.ref] 86)) ⟨rfl, rfl⟩ (by simp) (by simp) hrow2 hchg2 hold2
  clear hHeld
  go_wp2_with fail
  go_ret
  exact ⟨rfl, HPT.out _ _ (Post.pre HC5.out P9)⟩
set_option maxHeartbeats 6400000 in
set_option maxRecDepth 100000 in
theorem put_old (w : World) (b : Nat) (hp : Hp) (F : List Nat) (h : Int) (i : Nat) (key : ByteArray) (x y : Val) (H : Here hpR w b 0 hp F) (hi : -9223372036854775808 ≤ h ∧ h ≤ 9223372036854775807) (hs : slotOf hp h = some i) (hl : i < hp.slots.length) (hk : hp.slots[i].obj.kind ≠ 1)
    (HN : ∀ W, Chg (fun _ => False) w W → Calls Tryd.prog 37 #[.agg #[.int .i64 x.kind, .int .i64 x.int, .string x.str, .int .i64 x.ref]] W fun e w' => e = .returned (.agg #[.int .i64 y.kind, .int .i64 y.int, .string y.str, .int .i64 y.ref]) ∧ Chg (fun _ => False) W w') (j : Nat) (hf : findP key hp.slots[i].obj.props 0 = some j) (hj : j < hp.slots[i].obj.props.length) (hlp : hp.slots[i].obj.props.length ≤ 10000) :
    Calls Tryd.prog 24 #[.pointer (some ⟨b, 0, none⟩), .int .i64 h, .string key, .agg #[.int .i64 x.kind, .int .i64 x.int, .string x.str, .int .i64 x.ref]] w fun e w' => e = .returned (.int .i64 0) ∧ Post hpR w b 0 (putO hp i { hp.slots[i].obj with props := hp.slots[i].obj.props.set j ⟨hp.slots[i].obj.props[j].key, y.kind, y.int, y.str, y.ref⟩ }) F w' := by
  have hca := Chg.alloc (fun _ => False) w (.cells #[.int .i64 x.kind, .int .i64 x.int, .string x.str, .int .i64 x.ref] 36)
  have kb := alloc_block w (.cells #[.int .i64 x.kind, .int .i64 x.int, .string x.str, .int .i64 x.ref] 36)
  have HKB := Lib.hid kb
  have H2 := H.still hca
  obtain ⟨gh, oh, kh, c2, G, HOBJ0, hGF, hput⟩ := hpPut H hl
  obtain ⟨vp, ve, vd, vs, HOC⟩ := objOpen HOBJ0
  obtain ⟨p, cap, rfl, -⟩ := HOC.rp.slice
  have hrlt := HOC.rp.lt
  have c0 := HOC.c0
  have z1 : (hp.slots[i].obj.kind == 1) = false := beq_false_of_ne hk
  have hat := hat_any _ b 0 hp F h _ H2 (by rw [Nat.zero_add]; exact hca.cell c2) hi
  rw [hs, show objPtr (.slice (some ⟨gh, oh, none⟩) hp.slots.length kh) (some i) = some ⟨gh, oh + i * 11 + 1, none⟩ from rfl] at hat
  have HAT := Lib.hid hat
  have HNN := Lib.hid HN
  have HC2 := Lib.hid HOC.c2
  have HRP := Lib.hid HOC.rp
  generalize hx : hp.slots[i].obj = o_ at *
  have HX := Lib.hid hx
  have HC0 := Lib.hid c0
  have HCA := Lib.hid hca
  have HOB := Lib.hid HOBJ0
  have HPT := Lib.hid hput
  have HRLT := Lib.hid hrlt
  have HBS : Hid (∀ k ∈ G, k < w.heap.size) := Lib.hid (fun k hk => H.lt.2 k (hGF k hk))
  clear kb hca H2 c2 HOBJ0 hrlt hGF hput HOC c0 hi hs H hx hk hat HN
  go_enter Tryd.func24, Tryd.ntmps24
  go_upto_region 1 with fail
  generalize hw2 : w.alloc (.cells #[.int .i64 x.kind, .int .i64 x.int, .string x.str, .int .i64 x.ref] 36) = w1 at *
  generalize hb7 : w.heap.size = b7 at *
  have HB7E := Lib.hid hb7
  clear hw2 hb7
  go_upto_region 4 with (go_at_call 35; refine HAT.out.mono ?_; rintro e wa ⟨rfl, hca⟩)
  have HC1 := Lib.hid (HCA.out.trans' hca)
  have HKB2 := Lib.hid (hca.keep HKB.out (fun x => x))
  have k0 := cell_of_block (i := 0) HKB2.out rfl
  have k1 := cell_of_block (i := 1) HKB2.out rfl
  have k2 := cell_of_block (i := 2) HKB2.out rfl
  have k3 := cell_of_block (i := 3) HKB2.out rfl
  simp only [List.getElem_toArray, List.getElem_cons_zero, List.getElem_cons_succ] at k0 k1 k2 k3
  clear hca HAT HKB
  go_upto_region 5 with (go_at_call 37; refine (HNN.out _ HC1.out).mono ?_; rintro e wn ⟨rfl, hcn⟩; have hbn := hcn.keep HKB2.out (fun x => x); obtain ⟨z10, q0, z11, q1, z12, q2, z13, q3, hbf, hcs⟩ := store4 hbn (.int .i64 y.kind) (.int .i64 y.int) (.string y.str) (.int .i64 y.ref))
  have HB7 := Lib.hid hbf
  have hc4 : Chg (fun _ => False) w (((((wn.setCell ⟨b7, 0, none⟩ (.int .i64 y.kind)).setCell ⟨b7, 1, none⟩ (.int .i64 y.int)).setCell ⟨b7, 2, none⟩ (.string y.str)).setCell ⟨b7, 3, none⟩ (.int .i64 y.ref))) := (HC1.out.trans' hcn).trans hcs (fun _ _ x => x) (fun k hk e => by have := HB7E.out; omega)
  clear hbf hcs hcn hbn z10 q0 z11 q1 z12 q2 z13 q3 k0 k1 k2 k3
  generalize ((((wn.setCell ⟨b7, 0, none⟩ (.int .i64 y.kind)).setCell ⟨b7, 1, none⟩ (.int .i64 y.int)).setCell ⟨b7, 2, none⟩ (.string y.str)).setCell ⟨b7, 3, none⟩ (.int .i64 y.ref)) = w4 at *
  have c0 := hc4.cell HC0.out
  have HPL := Lib.hid (place_any w4 gh (oh + i * 11 + 1) _ o_.props key (hc4.cell HC2.out) (HRP.out.chg hc4 (fun _ _ x => x)))
  have HF := Lib.hid hf
  have HC4 := Lib.hid hc4
  clear hc4 hf HNN HKB2 HC1 HCA
  rw [HF.out] at HPL
  go_upto_region 18 with (go_at_call 43; refine HPL.out.mono ?_; rintro e w5 ⟨rfl, hc5⟩)
  have HC5 := Lib.hid (HC4.out.trans' hc5)
  have HY7 := Lib.hid (hc5.keep HB7.out (fun x => x))
  have c2 := HC5.out.cell HC2.out
  clear hc5 HPL c0 z1
  have HOB5 := Lib.hid (HOB.out.still HC5.out)
  have n0 := cell_of_block (i := 0) HY7.out rfl
  have n1 := cell_of_block (i := 1) HY7.out rfl
  have n2 := cell_of_block (i := 2) HY7.out rfl
  have n3 := cell_of_block (i := 3) HY7.out rfl
  simp only [List.getElem_toArray, List.getElem_cons_zero, List.getElem_cons_succ] at n0 n1 n2 n3
  have HS0 : Hid (w5.cell? ⟨gh, oh + i * 11 + 1 + 2, none⟩ = some (.slice p o_.props.length cap) ∧ w5.cell? ⟨b7, 0, none⟩ = some (.int .i64 y.kind) ∧ w5.cell? ⟨b7, 1, none⟩ = some (.int .i64 y.int) ∧ w5.cell? ⟨b7, 2, none⟩ = some (.string y.str) ∧ w5.cell? ⟨b7, 3, none⟩ = some (.int .i64 y.ref)) := Lib.hid ⟨c2, n0, n1, n2, n3⟩
  clear n0 n1 n2 n3
  have j0 : (0 : Int) ≤ (j : Int) := by omega
  have j1 : (j : Int) < (o_.props.length : Int) := by omega
  have HJ := Lib.hid hj
  clear hlp
  rw [show idxP (some j) = (j : Int) from rfl]
  obtain ⟨gp, opp, cp, hcv⟩ := HOB5.out.rowAt objR_props (by show 0 < 10; decide) (by have := HJ.out; omega)
  have hpe : p = some ⟨gp, opp, none⟩ ∧ cp = cap := by
    rw [c2] at hcv
    cases hcv
    exact ⟨rfl, rfl⟩
  obtain ⟨rfl, rfl⟩ := hpe
  obtain ⟨G2, HEL, -, -, -, hwb⟩ := (HOB5.out.drew).rowElem objR_props (by show 0 < 10; decide) (show w5.drew.cell? _ = _ from c2) HJ.out
  have HWB := Lib.hid hwb
  have HELH := Lib.hid HEL
  clear hcv hwb HEL
  go_upto_region 19 with fail
  clear c2
  refine wp_region_held_split 8 (fun w' => w'.cell? ⟨gh, oh + i * 11 + 1 + 2, none⟩ = some (.slice (some ⟨gp, opp, none⟩) o_.props.length cp) ∧ w'.cell? ⟨b7, 0, none⟩ = some (.int .i64 y.kind) ∧ w'.cell? ⟨b7, 1, none⟩ = some (.int .i64 y.int) ∧ w'.cell? ⟨b7, 2, none⟩ = some (.string y.str) ∧ w'.cell? ⟨b7, 3, none⟩ = some (.int .i64 y.ref)) (by kernel_rfl) (by kernel_rfl) ?_ (fun hHeld => ?_)
  · (first | exact HS0.out | exact HKS.out _ (Chg.refl _ _))
  simp only [List.take_succ_cons, List.take_zero]
  have HKS : Hid (∀ W, Chg (fun _ => False) w5.drew W → W.cell? ⟨gh, oh + i * 11 + 1 + 2, none⟩ = some (.slice (some ⟨gp, opp, none⟩) o_.props.length cp) ∧ W.cell? ⟨b7, 0, none⟩ = some (.int .i64 y.kind) ∧ W.cell? ⟨b7, 1, none⟩ = some (.int .i64 y.int) ∧ W.cell? ⟨b7, 2, none⟩ = some (.string y.str) ∧ W.cell? ⟨b7, 3, none⟩ = some (.int .i64 y.ref)) := Lib.hid (fun W hc => ⟨hc.cell HS0.out.1, hc.cell HS0.out.2.1, hc.cell HS0.out.2.2.1, hc.cell HS0.out.2.2.2.1, hc.cell HS0.out.2.2.2.2⟩)
  have HWD : Hid (Chg (fun _ => False) w5 w5.drew) := Lib.hid (Chg.refl _ w5).drewR
  generalize w5.drew = wD at *
  refine wpAnyH_take (i := 0) (v := ?_) rfl (by kernel_rfl) (by kernel_rfl) (by kernel_rfl) (fun _ _ _ h => h) (Or.inl ⟨by rfl, ?_⟩) (by assumption) ?_
  rotate_left
  · (intro wq hSw; (try dsimp only at hSw); go_simp; (try with_reducible rfl))
  simp only [Act.put, List.getElem_toArray, List.getElem_cons_zero, List.getElem_cons_succ, List.setIfInBounds_toArray, List.set_cons_zero, List.set_cons_succ]
  refine wpAnyH_take (i := 1) (v := ?_) rfl (by kernel_rfl) (by kernel_rfl) (by kernel_rfl) (fun _ _ _ h => h) (Or.inl ⟨by rfl, ?_⟩) (by assumption) ?_
  rotate_left
  · (intro wq hSw; (try dsimp only at hSw); go_simp; (try with_reducible rfl))
  simp only [Act.put, List.getElem_toArray, List.getElem_cons_zero, List.getElem_cons_succ, List.setIfInBounds_toArray, List.set_cons_zero, List.set_cons_succ]
  refine wpAnyH_take (i := 2) (v := ?_) rfl (by kernel_rfl) (by kernel_rfl) (by kernel_rfl) (fun _ _ _ h => h) (Or.inl ⟨by rfl, ?_⟩) (by assumption) ?_
  rotate_left
  · (intro wq hSw; (try dsimp only at hSw); go_simp; (try with_reducible rfl))
  simp only [Act.put, List.getElem_toArray, List.getElem_cons_zero, List.getElem_cons_succ, List.setIfInBounds_toArray, List.set_cons_zero, List.set_cons_succ]
  refine wpAnyH_take (i := 3) (v := ?_) rfl (by kernel_rfl) (by kernel_rfl) (by kernel_rfl) (fun _ _ _ h => h) (Or.inl ⟨by rfl, ?_⟩) (by assumption) ?_
  rotate_left
  · (intro wq hSw; (try dsimp only at hSw); go_simp; (try with_reducible rfl))
  simp only [Act.put, List.getElem_toArray, List.getElem_cons_zero, List.getElem_cons_succ, List.setIfInBounds_toArray, List.set_cons_zero, List.set_cons_succ]
  refine wpAnyH_take (i := 4) (v := ?_) rfl (by kernel_rfl) (by kernel_rfl) (by kernel_rfl) (fun _ _ _ h => h) (Or.inl ⟨by rfl, ?_⟩) (by assumption) ?_
  rotate_left
  · (intro wq hSw; (try dsimp only at hSw); go_simp; (try with_reducible rfl))
  simp only [Act.put, List.getElem_toArray, List.getElem_cons_zero, List.getElem_cons_succ, List.setIfInBounds_toArray, List.set_cons_zero, List.set_cons_succ]
  refine wpAnyH_take (i := 5) (v := ?_) rfl (by kernel_rfl) (by kernel_rfl) (by kernel_rfl) (fun _ _ _ h => h) (Or.inl ⟨by rfl, ?_⟩) (by assumption) ?_
  rotate_left
  · (intro wq hSw; (try dsimp only at hSw); go_simp; (try with_reducible rfl))
  simp only [Act.put, List.getElem_toArray, List.getElem_cons_zero, List.getElem_cons_succ, List.setIfInBounds_toArray, List.set_cons_zero, List.set_cons_succ]
  refine wpAnyH_take (i := 6) (v := ?_) rfl (by kernel_rfl) (by kernel_rfl) (by kernel_rfl) (fun _ _ _ h => h) (Or.inl ⟨by rfl, ?_⟩) (by assumption) ?_
  rotate_left
  · (intro wq hSw; (try dsimp only at hSw); go_simp; (try with_reducible rfl))
  simp only [Act.put, List.getElem_toArray, List.getElem_cons_zero, List.getElem_cons_succ, List.setIfInBounds_toArray, List.set_cons_zero, List.set_cons_succ]
  refine wpAnyH_take (i := 7) (v := ?_) rfl (by kernel_rfl) (by kernel_rfl) (by kernel_rfl) (fun _ _ _ h => h) (Or.inl ⟨by rfl, ?_⟩) (by assumption) ?_
  rotate_left
  · (intro wq hSw; (try dsimp only at hSw); go_simp; (try with_reducible rfl))
  simp only [Act.put, List.getElem_toArray, List.getElem_cons_zero, List.getElem_cons_succ, List.setIfInBounds_toArray, List.set_cons_zero, List.set_cons_succ]
  refine wpAnyH_done (by kernel_rfl) ?_ _
  change wpList _ _ _ _ _ _
  simp only [List.drop_succ_cons, List.drop_zero]
  have P1 := HELH.out.setPost propR_vkind (y := y.kind) (v := .int .i64 y.kind) rfl
  have P2 := P1.then (fun F' H' => H'.setPost propR_vint (y := y.int) (v := .int .i64 y.int) rfl)
  have P3 := P2.then (fun F' H' => H'.setPost propR_vstr (y := y.str) (v := .string y.str) rfl)
  have P4 := P3.then (fun F' H' => H'.setPost propR_vref (y := y.ref) (v := .int .i64 y.ref) rfl)
  obtain ⟨cB, TB, hbB, hszB⟩ : ∃ c T, wD.heap[gp]? = some (.cells c T (0, 0)) ∧ opp + j * 5 + 1 + 4 ≤ c.size := by
    obtain ⟨c, T, hh⟩ := HELH.out.size
    rcases hh with hh | hh
    · exact ⟨c, T, hh.1, by have := hh.2.2; show opp + j * 5 + 5 ≤ _; exact this⟩
    · exact absurd hh (by decide)
  obtain ⟨u0, u1, u2, u3, ⟨e0, f0⟩, ⟨e1, f1⟩, ⟨e2, f2⟩, e3, f3⟩ := store4At (o := opp + j * 5 + 1) hbB hszB (.int .i64 y.kind) (.int .i64 y.int) (.string y.str) (.int .i64 y.ref)
  have HP4 := Lib.hid P4
  clear P1 P2 P3 P4
  go_wp2_with fail
  go_ret
  obtain ⟨F4, h1, h2⟩ := HP4.out
  exact ⟨rfl, HPT.out _ _ (Post.pre (HC5.out.trans' HWD.out) (HWB.out _ _ F4 h1 h2).1)⟩
end Go.Proofs.YtjianickjahdnaaDoor
namespace Go.Proofs.YtjianickjahdnaaDoor
open Go.RowKit
set_option linter.unusedVariables false
set_option linter.unusedSimpArgs false

theorem ownL_nodup (v : Value) : (ownL v).Nodup := by
  unfold ownL
  cases v.ownBlock <;> simp
section
variable {α β : Type} {A : Rep α} {w : World} {b o k : Nat} {a : α} {F : List Nat} {e : TypeId}
/-- A row of flat data in a field: its value, and what lies there when another row has been stored. -/
theorem Here.fieldFlat {n : Nat} {f : β → List Value} {hf : ∀ a, (f a).length = n} {get : α → List β} {set : α → List β → α} (fl : FieldOf A ((Rep.flat n f hf).row e) k get set) (hA : 0 < A.n) (H : Here A w b o a F) :
    ∃ v, w.cell? ⟨b, o + k, none⟩ = some v ∧ RowAt w e n v (get a).length ((get a).flatMap f) ∧ (∀ j, v.ownBlock = some j → j ∈ F) ∧ ¬ v.ownBlock = some b ∧
      ∀ w2 v2 l, Chg (fun j => v.ownBlock = some j) w w2 → RowAt w2 e n v2 l.length (l.flatMap f) → (∀ j, v2.ownBlock = some j → v.ownBlock = some j ∨ w.heap.size ≤ j) →
        Post A w b o (set a l) F (w2.setCell ⟨b, o + k, none⟩ v2) := by
  obtain ⟨G1, h1, h2, h3⟩ := H.field fl hA
  obtain ⟨cs, hown, hcell⟩ := h1.cell
  obtain ⟨v, rfl, hr, rfl⟩ := row_flat.1 hown
  refine ⟨v, hcell 0 v rfl, hr, fun j hj => h2 j (mem_ownL.2 hj), fun hj => h1.nb (mem_ownL.2 hj), fun w2 v2 l hc hr2 hn => ?_⟩
  obtain ⟨p, q⟩ := h1.put (w2 := w2) (v := v2) (y := l) (G' := ownL v2) rfl (hc.mono fun j _ hj => mem_ownL.2 hj) (row_flat.2 ⟨v2, rfl, hr2, rfl⟩) (ownL_nodup v2) (fun j hj => (hn j (mem_ownL.1 hj)).imp mem_ownL.2 id)
  exact h3 _ _ _ p q
end
/-- append(x, make([]T, m)...): zeros onto an owned row. -/
theorem run_append_zeros {P : Program} (w : World) (t tx ty e : TypeId) (i : TypeInfo) (z : Value) (size bytes : Nat) (kx : IntKind) (ht : P.underlying t = some (.slice e)) (hk : P.underlying tx = some (.int kx)) (hi : P.info? e = some i) (hz : i.zero = some z)
    (hsize : i.size = size) (hby : i.bytes = bytes) (hzs : z.cells.size = size) (hsz : 0 < size) (h1 : ∀ u ∈ z.cells.toList, u.oneCell' = true)
    (v : Value) (n : Nat) (xs : List Value) (hown : RowAt w e size v n xs) (m : Nat) (h63 : n + m ≤ 4611686018427387904) (hbytes : (n + m) * bytes ≤ 140737488355328) :
    ∃ v' w', (Builtin.append_ #[t, tx] ty #[v, .int kx (m : Int)]).run P w = .ok v' w' ∧ RowAt w' e size v' (n + m) (xs ++ (Builtin.zeroCells z.cells m).toList) ∧ Chg (fun k => v.ownBlock = some k) w w' ∧
      (∀ k, v'.ownBlock = some k → v.ownBlock = some k ∨ w.heap.size ≤ k) := by
  subst hsize
  subst hby
  have wm : IntKind.i64.wrap (m : Int) = (m : Int) := IntWalk.i64_in _ (by omega)
  have m0 : ¬ (m : Int) < 0 := by omega
  have hai : ∀ (n : Int) (w' : World), (asIntOf (Value.int kx n)).run P w' = .ok (kx, n) w' := fun _ _ => rfl
  have mb : ¬ (281474976710656 < (m : Int) * (i.bytes : Int)) := by
    have : m * i.bytes ≤ (n + m) * i.bytes := Nat.mul_le_mul_right _ (by omega)
    have h2 : ((m * i.bytes : Nat) : Int) = (m : Int) * (i.bytes : Int) := by simp
    omega
  have hzl : (Builtin.zeroCells z.cells m).toList.length = m * i.size := by
    rw [Array.length_toList, size_zeroCells, hzs]
  have hap : (if m * i.size = 0 then (#[] : Array Value) else Builtin.zeroCells z.cells m) = Builtin.zeroCells z.cells m := by
    split
    · rename_i h
      have : (Builtin.zeroCells z.cells m).size = 0 := by rw [← Array.length_toList, hzl, h]
      exact (Array.eq_empty_of_size_eq_zero this).symm
    · rfl
  have hone : ∀ u ∈ (Builtin.zeroCells z.cells m).toList, u.oneCell' = true := by
    intro u hu
    unfold Builtin.zeroCells at hu
    rw [Array.toList_map, List.mem_map] at hu
    obtain ⟨j, -, rfl⟩ := hu
    have hj : j % z.cells.size < z.cells.size := Nat.mod_lt _ (by omega)
    rw [getElem!_pos z.cells (j % z.cells.size) hj]
    exact h1 _ (Array.getElem_mem_toList hj)
  have hlen : (xs ++ (Builtin.zeroCells z.cells m).toList).length = (n + m) * i.size := by rw [List.length_append, hown.1, hzl, Nat.add_mul]
  have hmaxl : n + m ≤ maxLen := by unfold maxLen; omega
  have grow : ∀ (base : Option Addr) (cap : Nat), v = .slice base n cap → cap < n + m → (Builtin.firstCells i.size n (.slice base n cap)).run P w.drew = .ok xs.toArray w.drew →
      ∃ v' w', (Builtin.append_ #[t, tx] ty #[v, .int kx (m : Int)]).run P w = .ok v' w' ∧ RowAt w' e i.size v' (n + m) (xs ++ (Builtin.zeroCells z.cells m).toList) ∧ Chg (fun k => v.ownBlock = some k) w w' ∧
      (∀ k, v'.ownBlock = some k → v.ownBlock = some k ∨ w.heap.size ≤ k) := by
    intro base cap hv hcap hold
    have hfit := growslice_fits hcap hbytes
    have hn : ¬ (n + m ≤ cap) := by omega
    have h63' : ¬ (9223372036854775807 < ((n : Int) + (m : Int))) := by omega
    have h48' : ¬ (281474976710656 < Builtin.nextslicecap (n + m) cap * i.bytes) := by omega
    have hge := grownCap_ge w (n + m) cap e
    have hcm : grownCap w (n + m) cap e ≤ maxLen := grownCap_le_maxLen w (n + m) cap e hmaxl
    have hr : (Builtin.append_ #[t, tx] ty #[v, .int kx (m : Int)]).run P w =
      .ok (.slice (some ⟨w.heap.size, 0, none⟩) (n + m) (grownCap w (n + m) cap e))
        (w.drew.alloc (.cells ((xs ++ (Builtin.zeroCells z.cells m).toList).toArray ++ Builtin.zeroCells z.cells (grownCap w (n + m) cap e - (n + m))) e)) := by
      rw [hv]
      by_cases hm0 : m * i.size = 0
      · have hzz : Builtin.zeroCells z.cells m = #[] := by rw [← hap, if_pos hm0]
        simp [Builtin.append_, run_underlying ht, run_underlying hk, sizeOf, typeInfo, zeroValue, hi, hz, wm, m0, mb, hn, h63', h48', Question.forced, hold, newRow, grownCap, asInt, hai, hm0, hzz]
      · simp [Builtin.append_, run_underlying ht, run_underlying hk, sizeOf, typeInfo, zeroValue, hi, hz, wm, m0, mb, hn, h63', h48', Question.forced, hold, newRow, grownCap, asInt, hai, hm0]
        congr 2
        apply Array.ext'
        simp [List.append_assoc]
    refine ⟨_, _, hr, ⟨hlen, .inr ⟨w.heap.size, 0, _, _, rfl, heap_alloc_new w.drew _, hge, hcm, ?_, ?_⟩⟩, ?_, ?_⟩
    · simp only [Array.size_append, List.size_toArray, size_zeroCells, hzs, hlen, ← Nat.add_mul]
      rw [show n + m + (grownCap w (n + m) cap e - (n + m)) = grownCap w (n + m) cap e from by omega]
      omega
    · simp only [Array.toList_append, List.drop_zero]
      rw [← hlen]
      exact List.take_left
    · exact ((Chg.refl _ w).drewR).allocR _
    · intro k hk
      simp only [Value.ownBlock, Option.some.injEq] at hk
      exact .inr (by omega)
  rcases hown.2 with ⟨rfl, rfl⟩ | ⟨g, off, cap, cur, rfl, hg, hnc, hcm, hcs, htake⟩
  · have hx : xs = [] := List.eq_nil_of_length_eq_zero (by simpa using hown.1)
    subst hx
    by_cases hm : m = 0
    · subst hm
      have hzz : Builtin.zeroCells z.cells 0 = #[] := by simp [Builtin.zeroCells]
      have w00 : IntKind.i64.wrap 0 = 0 := IntWalk.i64_in _ (by omega)
      refine ⟨.slice none 0 0, w, ?_, by rw [hzz]; exact RowAt.nil w e i.size, .refl _ _, fun k hk => .inl hk⟩
      simp [Builtin.append_, run_underlying ht, run_underlying hk, sizeOf, typeInfo, hi, asInt, hai, w00]
    · exact grow none 0 rfl (by omega) (run_firstCells_none w.drew i.size 0 0 0)
  · by_cases hroom : n + m ≤ cap
    · have hmul : n * i.size + m * i.size ≤ cap * i.size := by rw [← Nat.add_mul]; exact Nat.mul_le_mul_right _ hroom
      have hfit : off + n * i.size + (Builtin.zeroCells z.cells m).toList.length ≤ cur.size := by rw [hzl]; omega
      have hst := run_storeCells_cells (P := P) g (off + n * i.size) (Builtin.zeroCells z.cells m).toList 0 w (fun j hj => by rw [Nat.add_zero, cell_of_block hg (Array.getElem?_eq_getElem (by omega))]; rfl) (fun j _ => frozen_of_block hg) hone
      simp only [Nat.add_zero] at hst
      have hr : (Builtin.append_ #[t, tx] ty #[.slice (some ⟨g, off, none⟩) n cap, .int kx (m : Int)]).run P w = .ok (.slice (some ⟨g, off, none⟩) (n + m) cap) (w.setCells g (off + n * i.size) (Builtin.zeroCells z.cells m).toList) := by
        by_cases hm0 : m * i.size = 0
        · have hzz : Builtin.zeroCells z.cells m = #[] := by rw [← hap, if_pos hm0]
          rw [hzz] at hst
          simp [Builtin.append_, run_underlying ht, run_underlying hk, sizeOf, typeInfo, zeroValue, hi, hz, wm, m0, mb, hroom, asInt, hai, hm0, hzz, Addr.add_lit, hst]
        · simp [Builtin.append_, run_underlying ht, run_underlying hk, sizeOf, typeInfo, zeroValue, hi, hz, wm, m0, mb, hroom, asInt, hai, hm0, Addr.add_lit, hst]
      refine ⟨_, _, hr, ⟨hlen, .inr ⟨g, off, cap, _, rfl, setCells_block _ _ hg, hroom, hcm, ?_, ?_⟩⟩, ?_, fun k hk => .inl hk⟩
      · rw [putAt_size]; exact hcs
      · rw [putAt_toList _ _ _ hfit, List.append_assoc, List.drop_append_of_le_length (by simp; omega)]
        rw [← List.append_assoc, List.drop_take, show off + n * i.size - off = n * i.size from by omega, htake, ← hlen]
        exact List.take_left
      · exact (Chg.setCells _ w _).mono (fun k _ hk => by simp only [Value.ownBlock, hk])
    · refine grow (some ⟨g, off, none⟩) cap rfl (by omega) ?_
      refine run_firstCells_some w.drew i.size n ⟨g, off, none⟩ n cap xs hown.1 ?_
      intro j u hu
      have := hown.cells rfl j u hu
      simpa using this
/-- Inside a region that draws its order. -/
theorem step_append_zeros {P : Program} {w : World} {ops : Array Oper} {o : Oper} {a : Act} {K : Act → World → Prop} {Q : Exit → Act → World → Prop} {E : Prop} (hgd : o.guard = none) (s x : Operand) (t tx : TypeId)
    (ho : o.op = .call { callee := .builtin .append, args := #[s, x], argTypes := #[t, tx] })
    (e : TypeId) (i : TypeInfo) (z : Value) (size bytes : Nat) (kx : IntKind) (ht : P.underlying t = some (.slice e)) (hk : P.underlying tx = some (.int kx)) (hi : P.info? e = some i) (hz : i.zero = some z)
    (hsize : i.size = size) (hby : i.bytes = bytes) (hzs : z.cells.size = size) (hsz : 0 < size) (h1 : ∀ u ∈ z.cells.toList, u.oneCell' = true)
    (v : Value) (n : Nat) (xs : List Value) (hsv : a.eval s = v) (hown : RowAt w e size v n xs) (m : Nat) (hx : a.eval x = .int kx (m : Int)) (h63 : n + m ≤ 4611686018427387904) (hbytes : (n + m) * bytes ≤ 140737488355328)
    (h : ∀ a1 n1 c1 w', RowAt w' e size (.slice a1 n1 c1) (n + m) (xs ++ (Builtin.zeroCells z.cells m).toList) → Chg (fun k => v.ownBlock = some k) w w' → (∀ k, (Value.slice a1 n1 c1).ownBlock = some k → v.ownBlock = some k ∨ w.heap.size ≤ k) → K (a.put o.dst (.slice a1 n1 c1)) w') :
    if Region.wanted o (yielded ops a.tmps) = true then Oper.wp P o a w K Q else E := by
  have hw : Region.wanted o (yielded ops a.tmps) = true := by simp [Region.wanted, hgd]
  rw [if_pos hw]
  obtain ⟨v', w', hr, h2, h3, h4⟩ := run_append_zeros (P := P) w t tx o.type e i z size bytes kx ht hk hi hz hsize hby hzs hsz h1 v n xs hown m h63 hbytes
  obtain ⟨a1, c1, rfl, -⟩ := h2.slice
  unfold Oper.wp execOp
  simp only [ho, resolve, invoke, builtin, Sem.run_bind, Sem.run_pure, Result.andThen_ok, List.map_toArray, List.map_cons, List.map_nil, hsv, hx, hr]
  exact h _ _ _ w' h2 h3 h4
/-- The cells of m zeros. -/
theorem zeroCells_rep {z : Array Value} {cs : List Value} (h : z.toList = cs) (hp : 0 < cs.length) : ∀ m : Nat, (Builtin.zeroCells z m).toList = (List.replicate m cs).flatten := by
  have hz : z.size = cs.length := by rw [← h, Array.length_toList]
  have key : ∀ m, (Builtin.zeroCells z m).toList = (List.range (m * cs.length)).map fun i => cs.getD (i % cs.length) default := by
    intro m
    unfold Builtin.zeroCells
    rw [Array.toList_map, Array.toList_range, hz]
    refine List.map_congr_left fun i hi => ?_
    have hj : i % z.size < z.size := Nat.mod_lt _ (by omega)
    rw [← hz, getElem!_pos z (i % z.size) hj, List.getD_eq_getElem?_getD, ← h, List.getElem?_eq_getElem (by rw [Array.length_toList]; exact hj)]
    simp
  intro m
  rw [key]
  induction m with
  | zero => simp
  | succ m ih =>
    rw [List.replicate_succ', List.flatten_append, ← ih, Nat.add_mul, Nat.one_mul, List.range_add, List.map_append]
    congr 1
    rw [List.map_map]
    refine List.ext_getElem? fun i => ?_
    rw [List.getElem?_map]
    by_cases hi : i < cs.length
    · rw [List.getElem?_range hi]
      have e : (m * cs.length + i) % cs.length = i := by rw [Nat.mul_comm, Nat.mul_add_mod]; exact Nat.mod_eq_of_lt hi
      simp [e, hi]
    · rw [List.getElem?_eq_none (by simp; omega)]
      simp
      omega
end Go.Proofs.YtjianickjahdnaaDoor
namespace Go.Proofs.YtjianickjahdnaaDoor
open Go.RowKit
set_option linter.unusedVariables false
set_option linter.unusedSimpArgs false

theorem add_none4 (g off j q : Nat) : (⟨g, off + j, none⟩ : Addr).add q = ⟨g, off + (j + q), none⟩ := by
  rw [← Nat.add_assoc]; unfold Addr.add; split <;> simp_all
/-- The zero of an element's type, its cells. -/
def ElemZ (P : Program) (e : TypeId) (size bytes : Nat) (cs : List Value) : Prop := ∃ i z, P.info? e = some i ∧ i.zero = some z ∧ i.size = size ∧ i.bytes = bytes ∧ z.cells.size = size ∧ z.cells.toList = cs
theorem elemZ_of {P : Program} {e : TypeId} {size bytes : Nat} {cs : List Value} (h : (P.info? e).map (fun i => (i.zero.map (fun z => z.cells.toList), i.size, i.bytes)) = some (some cs, size, bytes)) (hc : cs.length = size) : ElemZ P e size bytes cs := by
  unfold ElemZ
  match hm : P.info? e, h with
  | some i, h =>
    simp only [Option.map_some, Option.some.injEq, Prod.mk.injEq] at h
    obtain ⟨h1, h2, h3⟩ := h
    match hz : i.zero, h1 with
    | some z, h1 =>
      have h4 : z.cells.toList = cs := by simpa using h1
      exact ⟨i, z, rfl, hz, h2, h3, by rw [← Array.length_toList, h4]; exact hc, h4⟩
theorem elemZ_val : ElemZ Tryd.prog 36 4 40 [.int .i64 0, .int .i64 0, .string ⟨#[]⟩, .int .i64 0] := elemZ_of (by kernel_rfl) rfl
theorem elemZ_prop : ElemZ Tryd.prog 86 5 56 [.string ⟨#[]⟩, .int .i64 0, .int .i64 0, .string ⟨#[]⟩, .int .i64 0] := elemZ_of (by kernel_rfl) rfl
/-- What lies there when the rest has been moved and cleared. -/
theorem del_row {w5 : World} {g off i j m cap e size : Nat} {cur : Array Value} {xs zs : List Value} (hb5 : w5.heap[g]? = some (.cells (putAt cur (off + i * size) (xs.drop (j * size))) e (0, 0))) (hx : (cur.toList.drop off).take ((j + m) * size) = xs) (hxl : xs.length = (j + m) * size)
    (hnl : (xs.drop (j * size)).length = m * size) (hij : i < j) (hc : j + m ≤ cap) (hcm : cap ≤ maxLen) (hsz : off + cap * size ≤ cur.size) (hzl : off + (i + m) * size + zs.length ≤ cur.size) :
    RowAt (w5.setCells g (off + (i + m) * size) zs) e size (.slice (some ⟨g, off, none⟩) (i + m) cap) (i + m) (xs.take (i * size) ++ xs.drop (j * size)) := by
  have hi1 : i * size ≤ (j + m) * size := Nat.mul_le_mul_right _ (by omega)
  have hadd : (i + m) * size = i * size + m * size := Nat.add_mul ..
  have hle : (i + m) * size ≤ cap * size := Nat.mul_le_mul_right _ (by omega)
  have hli : (xs.take (i * size)).length = i * size := by rw [List.length_take]; omega
  refine ⟨by rw [List.length_append, hli, hnl, hadd], .inr ⟨g, off, cap, _, rfl, setCells_block zs _ hb5, by omega, hcm, by rw [putAt_size, putAt_size]; exact hsz, ?_⟩⟩
  have hs1 : (putAt cur (off + i * size) (xs.drop (j * size))).size = cur.size := putAt_size ..
  rw [putAt_toList _ _ _ (by rw [hs1]; exact hzl), putAt_toList _ _ _ (by rw [hnl]; omega)]
  have e1 : (cur.toList.take (off + i * size)).drop off = xs.take (i * size) := by
    rw [← hx, List.take_take, Nat.min_eq_left hi1, List.drop_take]
    congr 1; omega
  have hcl : cur.toList.length = cur.size := Array.length_toList
  have hA : (cur.toList.take (off + i * size) ++ xs.drop (j * size)).length = off + (i + m) * size := by
    rw [List.length_append, hnl, List.length_take, hcl, hadd]; omega
  have e2 : (cur.toList.take (off + i * size) ++ xs.drop (j * size) ++ cur.toList.drop (off + i * size + (xs.drop (j * size)).length)).take (off + (i + m) * size) = cur.toList.take (off + i * size) ++ xs.drop (j * size) := by
    rw [← hA]; exact List.take_left
  rw [e2, List.append_assoc, List.append_assoc, List.drop_append_of_le_length (by rw [List.length_take, hcl]; omega), e1]
  rw [← List.append_assoc]
  have hB : (xs.take (i * size) ++ xs.drop (j * size)).length = (i + m) * size := by rw [List.length_append, hli, hnl, hadd]
  rw [← hB]; exact List.take_left
/-- clear of a part of a row. -/
theorem run_clear_row {P : Program} (w : World) (t e ty : TypeId) (i : TypeInfo) (z : Value) (size : Nat) (cur : Array Value) (ht : P.underlying t = some (.slice e)) (hi : P.info? e = some i) (hz : i.zero = some z) (hsz : i.size = size) (hzs : z.cells.size = size) (h1 : ∀ u ∈ z.cells.toList, u.oneCell' = true)
    (g o n c : Nat) (hg : w.heap[g]? = some (.cells cur e (0, 0))) (hs : o + n * size ≤ cur.size) (hn : 0 < n) :
    (Builtin.clear_ #[t] ty #[.slice (some ⟨g, o, none⟩) n c]).run P w = .ok (.tuple #[]) (w.setCells g o (Builtin.zeroCells z.cells n).toList) := by
  have hzl : (Builtin.zeroCells z.cells n).toList.length = n * size := by rw [Array.length_toList, size_zeroCells, hzs]
  have hone : ∀ u ∈ (Builtin.zeroCells z.cells n).toList, u.oneCell' = true := by
    intro u hu
    unfold Builtin.zeroCells at hu
    rw [Array.toList_map, List.mem_map] at hu
    obtain ⟨j, hj, rfl⟩ := hu
    have hjr : j < n * z.cells.size := by simpa using hj
    have hpos : 0 < z.cells.size := by
      apply Nat.pos_of_ne_zero
      intro e0
      rw [e0] at hjr
      omega
    have hj2 : j % z.cells.size < z.cells.size := Nat.mod_lt _ hpos
    rw [getElem!_pos z.cells (j % z.cells.size) hj2]
    exact h1 _ (Array.getElem_mem_toList hj2)
  have hst := run_storeCells_cells (P := P) g o (Builtin.zeroCells z.cells n).toList 0 w (fun j hj => by rw [Nat.add_zero, cell_of_block hg (Array.getElem?_eq_getElem (by omega))]; rfl) (fun j _ => frozen_of_block hg) hone
  simp only [Nat.add_zero] at hst
  have hn0 : n ≠ 0 := by omega
  obtain ⟨n', rfl⟩ : ∃ n', n = n' + 1 := ⟨n - 1, by omega⟩
  simp [Builtin.clear_, run_underlying ht, zeroValue, typeInfo, hi, hz, hst]

set_option maxHeartbeats 6400000 in
set_option maxRecDepth 100000 in
theorem delV_any (w : World) (v : Value) (n i j : Nat) (xs : List Value) (hr : RowAt w 36 4 v n xs) (h1c : ∀ u ∈ xs, u.oneCell' = true) (hij : i ≤ j) (hj : j ≤ n) (hl : n ≤ 1000000) :
    Calls Tryd.prog 59 #[v, .int .i64 (i : Int), .int .i64 (j : Int)] w fun e w' => ∃ v', e = .returned v' ∧ RowAt w' 36 4 v' (n - (j - i)) (xs.take (i * 4) ++ xs.drop (j * 4)) ∧ Chg (fun k => v.ownBlock = some k) w w' ∧ (∀ k, v'.ownBlock = some k → v.ownBlock = some k) := by
  obtain ⟨m, hm⟩ : ∃ m, n = j + m := ⟨n - j, by omega⟩
  subst hm
  have i0' : (0 : Int) ≤ (i : Int) := by omega
  have j0' : (0 : Int) ≤ (j : Int) := by omega
  have ij' : (i : Int) ≤ (j : Int) := by omega
  have jn' : (j : Int) ≤ ((j + m : Nat) : Int) := by omega
  obtain ⟨a, cap, rfl, hnc, hcm⟩ := hr.slice
  by_cases he : i = j
  · subst he
    have HR := Lib.hid hr
    clear hr hij hj hl h1c
    have fin : ∀ W, W = w → RowAt W 36 4 (.slice a (i + m) cap) (i + m - (i - i)) (xs.take (i * 4) ++ xs.drop (i * 4)) := fun W e => by
      rw [e, Nat.sub_self, Nat.sub_zero, List.take_append_drop]; exact HR.out
    have FIN := Lib.hid fin
    clear fin
    rcases Nat.eq_zero_or_pos m with rfl | hmp
    · go_enter Tryd.func59, Tryd.ntmps59
      go_wp2_with fail
      go_ret
      exact ⟨_, rfl, by first | exact FIN.out _ rfl | simpa using FIN.out w rfl, Chg.refl _ _, fun k h => h⟩
    · have ne1 : ¬ i + m = i := by omega
      have ne2 : ¬ m = 0 := by omega
      go_enter Tryd.func59, Tryd.ntmps59
      go_wp2_with fail
      go_ret
      exact ⟨_, rfl, by first | exact FIN.out _ rfl | simpa using FIN.out w rfl, Chg.refl _ _, fun k h => h⟩
  · obtain ⟨g, off, cap', hv, hblk⟩ := hr.addr (by omega)
    cases hv
    obtain ⟨i0, z, hi, hz, hsz, hby, hzs, hzl⟩ := elemZ_val
    have HZO := Lib.hid (show ∀ u ∈ z.cells.toList, u.oneCell' = true from fun u hu => by rw [hzl] at hu; simp only [List.mem_cons, List.not_mem_nil, or_false] at hu; rcases hu with rfl | rfl | rfl | rfl <;> rfl)
    have hxl := hr.1
    obtain ⟨g', off', cap'', cur, hv, hg, h1, h2, h3, h4⟩ : ∃ g' off' cap'' cur, Value.slice (some ⟨g, off, none⟩) (j + m) cap = .slice (some ⟨g', off', none⟩) (j + m) cap'' ∧ w.heap[g']? = some (.cells cur 36 (0, 0)) ∧ j + m ≤ cap'' ∧ cap'' ≤ maxLen ∧ off' + cap'' * 4 ≤ cur.size ∧ (cur.toList.drop off').take ((j + m) * 4) = xs := by
      rcases hr.2 with ⟨hv, -⟩ | h
      · cases hv
      · exact h
    cases hv
    have HG := Lib.hid hg
    have HB := Lib.hid (show j + m ≤ cap ∧ i < j ∧ j + m ≤ 1000000 from ⟨h1, by omega, hl⟩)
    have HBC := Lib.hid h3
    have HXS := Lib.hid h4
    have HI := Lib.hid hi
    have HZ := Lib.hid hz
    have HSZ := Lib.hid hsz
    have HZS := Lib.hid hzs
    have HR := Lib.hid hr
    have HXL := Lib.hid hxl
    have HCM := Lib.hid hcm
    have H1 := Lib.hid h1c
    have ne1 : ¬ j + m = i := by omega
    have ne2 : ¬ cap = 0 := by omega
    have ne3 : ¬ cap = i + m := by omega
    have ne4 : (i : Int) ≠ (j : Int) := by omega
    have ne5 : ((i : Int) == (j : Int)) = false := beq_false_of_ne ne4
    have c1 : (i : Int) ≤ (cap : Int) := by omega
    have c3 : (j : Int) ≤ (j : Int) + (m : Int) := by omega
    have c2 : ((j + m : Nat) : Int) ≤ (cap : Int) := by omega
    clear hg h1 h2 h3 h4 h1c hi hz hsz hzs hby hzl hr hxl hij hj hl hnc hcm hblk
    have HNL : Hid ((xs.drop (j * 4)).length = m * 4) := Lib.hid (by rw [List.length_drop, HXL.out]; omega)
    have HNO : Hid (∀ u ∈ xs.drop (j * 4), u.oneCell' = true) := Lib.hid (fun u hu => H1.out u (List.mem_of_mem_drop hu))
    have HSP : Hid (∀ W, Chg (fun _ => False) w W → ∀ q, q < (xs.drop (j * 4)).length → (W.cell? ⟨g, off + i * 4 + q, none⟩).isSome = true ∧ W.frozen? ⟨g, off + i * 4 + q, none⟩ = false) := Lib.hid (fun W hc q hq => by
      have hb := hc.keep HG.out (fun x => x)
      rw [HNL.out] at hq
      exact ⟨by rw [cell_of_block hb (Array.getElem?_eq_getElem (by have := HB.out; have := HBC.out; omega))]; rfl, frozen_of_block hb⟩)
    have HFIN : Hid (∀ (w5 : World), w5.heap[g]? = some (.cells (putAt cur (off + i * 4) (xs.drop (j * 4))) 36 (0, 0)) → RowAt (w5.setCells g (off + (i + m) * 4) (Builtin.zeroCells z.cells (j - i)).toList) 36 4 (.slice (some ⟨g, off, none⟩) (i + m) cap) (i + m) (xs.take (i * 4) ++ xs.drop (j * 4))) := Lib.hid (fun w5 hb5 =>
      del_row hb5 HXS.out HXL.out HNL.out (by have := HB.out; omega) (by have := HB.out; omega) HCM.out HBC.out (by rw [Array.length_toList, size_zeroCells, HZS.out]; have := HB.out; have := HBC.out; omega))
    by_cases hcj : j = cap
    · subst hcj
      have hm0 : m = 0 := by have := HB.out; omega
      subst hm0
      simp only [Nat.add_zero, Nat.zero_mul] at HXS HXL ne1 HNL HB HR ne3 c2 HFIN jn'
      go_enter Tryd.func59, Tryd.ntmps59
      go_upto_region 5 with fail

      refine wp_region_held_split 7 (fun _ => True) (by kernel_rfl) (by kernel_rfl) ?_ (fun hHeld => ?_)
      · trivial
      simp only [List.take_succ_cons, List.take_zero]
      have HWD : Hid (Chg (fun _ => False) w w.drew) := Lib.hid (Chg.refl _ w).drewR
      generalize w.drew = wD at *
      refine wpAnyH_take (i := 0) (v := ?_) rfl (by kernel_rfl) (by kernel_rfl) (by kernel_rfl) (fun _ _ _ h => h) (Or.inl ⟨by rfl, ?_⟩) (by assumption) ?_
      rotate_left
      · (intro wq hSw; (try dsimp only at hSw); go_simp; (try with_reducible rfl))
      simp only [Act.put, List.getElem_toArray, List.getElem_cons_zero, List.getElem_cons_succ, List.setIfInBounds_toArray, List.set_cons_zero, List.set_cons_succ]
      refine wpAnyH_take (i := 1) (v := ?_) rfl (by kernel_rfl) (by kernel_rfl) (by kernel_rfl) (fun _ _ _ h => h) (Or.inl ⟨by rfl, ?_⟩) (by assumption) ?_
      rotate_left
      · (intro wq hSw; (try dsimp only at hSw); go_simp; (try with_reducible rfl))
      simp only [Act.put, List.getElem_toArray, List.getElem_cons_zero, List.getElem_cons_succ, List.setIfInBounds_toArray, List.set_cons_zero, List.set_cons_succ]
      refine wpAnyH_take (i := 2) (v := ?_) rfl (by kernel_rfl) (by kernel_rfl) (by kernel_rfl) (fun _ _ _ h => h) (Or.inl ⟨by rfl, ?_⟩) (by assumption) ?_
      rotate_left
      · (intro wq hSw; (try dsimp only at hSw); go_simp; (try with_reducible rfl))
      simp only [Act.put, List.getElem_toArray, List.getElem_cons_zero, List.getElem_cons_succ, List.setIfInBounds_toArray, List.set_cons_zero, List.set_cons_succ]
      refine wpAnyH_take (i := 3) (v := ?_) rfl (by kernel_rfl) (by kernel_rfl) (by kernel_rfl) (fun _ _ _ h => h) (Or.inl ⟨by rfl, ?_⟩) (by assumption) ?_
      rotate_left
      · (intro wq hSw; (try dsimp only at hSw); go_simp; (try with_reducible rfl))
      simp only [Act.put, List.getElem_toArray, List.getElem_cons_zero, List.getElem_cons_succ, List.setIfInBounds_toArray, List.set_cons_zero, List.set_cons_succ]
      refine wpAnyH_take (i := 4) (v := ?_) rfl (by kernel_rfl) (by kernel_rfl) (by kernel_rfl) (fun _ _ _ h => h) (Or.inl ⟨by rfl, ?_⟩) (by assumption) ?_
      rotate_left
      · (intro wq hSw; (try dsimp only at hSw); go_simp; (try with_reducible rfl))
      simp only [Act.put, List.getElem_toArray, List.getElem_cons_zero, List.getElem_cons_succ, List.setIfInBounds_toArray, List.set_cons_zero, List.set_cons_succ]
      refine wpAnyH_take (i := 5) (v := ?_) rfl (by kernel_rfl) (by kernel_rfl) (by kernel_rfl) (fun _ _ _ h => h) (Or.inl ⟨by rfl, ?_⟩) (by assumption) ?_
      rotate_left
      · (intro wq hSw; (try dsimp only at hSw); go_simp; (try with_reducible rfl))
      simp only [Act.put, List.getElem_toArray, List.getElem_cons_zero, List.getElem_cons_succ, List.setIfInBounds_toArray, List.set_cons_zero, List.set_cons_succ]
      refine wpAnyH_ready (rs := [6]) (by kernel_rfl) (by simp) ?_
      refine AllReadyH.cons (by simp only [List.getElem?_toArray, List.getElem?_cons_succ, List.getElem?_cons_zero]; rfl) (fun K hK => ?_) AllReadyH.nil
      (refine step_append_room (by rfl) _ _ _ (by rfl) 36 i0 4 Tryd.underlying44 HI.out HSZ.out g off i j (by rfl) ⟨g, off, none⟩ 0 0 (xs.drop (j * 4)) (by rfl) HNL.out (fun q u hu => by have h0 := (List.getElem?_eq_some_iff.1 hu).1; rw [HNL.out] at h0; omega) HNO.out (by have := HB.out.1; omega) (HSP.out wD HWD.out) ?_)
      refine hK.out _ _ ?_ (fun hHeld => ?_)
      · trivial
      clear hK K
      (try simp only [Act.put, List.getElem_toArray, List.getElem_cons_zero, List.getElem_cons_succ, List.setIfInBounds_toArray, List.set_cons_zero, List.set_cons_succ])
      refine wpAnyH_done (by kernel_rfl) ?_ _
      change wpList _ _ _ _ _ _
      simp only [List.drop_succ_cons, List.drop_zero]
      have hgd : wD.heap[g]? = some (.cells cur 36 (0, 0)) := HWD.out.keep HG.out (fun x => x)
      have hb5 := setCells_block (b := g) (xs.drop (j * 4)) (off + i * 4) hgd
      have HC5 := Lib.hid (Chg.setCells (b := g) (xs.drop (j * 4)) wD (off + i * 4))
      go_upto_region 6 with fail
      generalize wD.setCells g (off + i * 4) (xs.drop (j * 4)) = w5 at *
      have HB5 := Lib.hid hb5
      have hclr := run_clear_row (P := Tryd.prog) w5 44 36 0 i0 z 4 (putAt cur (off + i * 4) (xs.drop (j * 4))) Tryd.underlying44 HI.out HZ.out HSZ.out HZS.out HZO.out g (off + i * 4) (j - i) (j - i) hb5 (by rw [putAt_size]; have := HB.out; have := HBC.out; omega) (by have := HB.out; omega)
      have HF := Lib.hid (HFIN.out w5 hb5)
      have hc6 := Chg.setCells (b := g) (Builtin.zeroCells z.cells (j - i)).toList w5 (off + i * 4)
      have HC6 := Lib.hid hc6
      have tn1 : ((i : Int) + (0 : Int)).toNat = i := by omega
      have tn2 : ((j : Int) + (0 : Int)).toNat = j := by omega
      have b1 : (0 : Int) ≤ (i : Int) + (0 : Int) := by omega
      have b2 : (i : Int) + (0 : Int) ≤ (j : Int) + (0 : Int) := by omega
      have b3 : (j : Int) + (0 : Int) ≤ (j : Int) := by omega
      have b4 : j - i = j - i := by omega
      clear hc6 hgd hb5 HFIN
      generalize (Builtin.zeroCells z.cells (j - i)).toList = Z at *
      go_wp2_with fail
      go_ret
      refine ⟨_, rfl, ?_, ((HWD.out.trans HC5.out (fun _ _ x => x.elim) (fun _ _ x => x)).trans' HC6.out).mono (fun k _ e => by subst e; rfl), fun k h => h⟩
      rw [show j - (j - i) = i from by have := HB.out; omega]
      exact HF.out
    · have ne6 : ¬ cap = j := fun e => hcj e.symm
      clear hcj
      go_enter Tryd.func59, Tryd.ntmps59
      go_upto_region 5 with fail

      refine wp_region_held_split 7 (fun _ => True) (by kernel_rfl) (by kernel_rfl) ?_ (fun hHeld => ?_)
      · trivial
      simp only [List.take_succ_cons, List.take_zero]
      have HWD : Hid (Chg (fun _ => False) w w.drew) := Lib.hid (Chg.refl _ w).drewR
      generalize w.drew = wD at *
      refine wpAnyH_take (i := 0) (v := ?_) rfl (by kernel_rfl) (by kernel_rfl) (by kernel_rfl) (fun _ _ _ h => h) (Or.inl ⟨by rfl, ?_⟩) (by assumption) ?_
      rotate_left
      · (intro wq hSw; (try dsimp only at hSw); go_simp; (try with_reducible rfl))
      simp only [Act.put, List.getElem_toArray, List.getElem_cons_zero, List.getElem_cons_succ, List.setIfInBounds_toArray, List.set_cons_zero, List.set_cons_succ]
      refine wpAnyH_take (i := 1) (v := ?_) rfl (by kernel_rfl) (by kernel_rfl) (by kernel_rfl) (fun _ _ _ h => h) (Or.inl ⟨by rfl, ?_⟩) (by assumption) ?_
      rotate_left
      · (intro wq hSw; (try dsimp only at hSw); go_simp; (try with_reducible rfl))
      simp only [Act.put, List.getElem_toArray, List.getElem_cons_zero, List.getElem_cons_succ, List.setIfInBounds_toArray, List.set_cons_zero, List.set_cons_succ]
      refine wpAnyH_take (i := 2) (v := ?_) rfl (by kernel_rfl) (by kernel_rfl) (by kernel_rfl) (fun _ _ _ h => h) (Or.inl ⟨by rfl, ?_⟩) (by assumption) ?_
      rotate_left
      · (intro wq hSw; (try dsimp only at hSw); go_simp; (try with_reducible rfl))
      simp only [Act.put, List.getElem_toArray, List.getElem_cons_zero, List.getElem_cons_succ, List.setIfInBounds_toArray, List.set_cons_zero, List.set_cons_succ]
      refine wpAnyH_take (i := 3) (v := ?_) rfl (by kernel_rfl) (by kernel_rfl) (by kernel_rfl) (fun _ _ _ h => h) (Or.inl ⟨by rfl, ?_⟩) (by assumption) ?_
      rotate_left
      · (intro wq hSw; (try dsimp only at hSw); go_simp; (try with_reducible rfl))
      simp only [Act.put, List.getElem_toArray, List.getElem_cons_zero, List.getElem_cons_succ, List.setIfInBounds_toArray, List.set_cons_zero, List.set_cons_succ]
      refine wpAnyH_take (i := 4) (v := ?_) rfl (by kernel_rfl) (by kernel_rfl) (by kernel_rfl) (fun _ _ _ h => h) (Or.inl ⟨by rfl, ?_⟩) (by assumption) ?_
      rotate_left
      · (intro wq hSw; (try dsimp only at hSw); go_simp; (try with_reducible rfl))
      simp only [Act.put, List.getElem_toArray, List.getElem_cons_zero, List.getElem_cons_succ, List.setIfInBounds_toArray, List.set_cons_zero, List.set_cons_succ]
      refine wpAnyH_take (i := 5) (v := ?_) rfl (by kernel_rfl) (by kernel_rfl) (by kernel_rfl) (fun _ _ _ h => h) (Or.inl ⟨by rfl, ?_⟩) (by assumption) ?_
      rotate_left
      · (intro wq hSw; (try dsimp only at hSw); go_simp; (try with_reducible rfl))
      simp only [Act.put, List.getElem_toArray, List.getElem_cons_zero, List.getElem_cons_succ, List.setIfInBounds_toArray, List.set_cons_zero, List.set_cons_succ]
      refine wpAnyH_ready (rs := [6]) (by kernel_rfl) (by simp) ?_
      refine AllReadyH.cons (by simp only [List.getElem?_toArray, List.getElem?_cons_succ, List.getElem?_cons_zero]; rfl) (fun K hK => ?_) AllReadyH.nil
      (refine step_append_room (by rfl) _ _ _ (by rfl) 36 i0 4 Tryd.underlying44 HI.out HSZ.out g off i cap (by rfl) ⟨g, off + j * 4, none⟩ m (cap - j) (xs.drop (j * 4)) (by rfl) HNL.out (fun q u hu => by rw [add_none4]; exact (HR.out.chg HWD.out (fun _ _ x => x)).cellAt (j * 4 + q) u (by rw [List.getElem?_drop] at hu; exact hu)) HNO.out (by have := HB.out.1; omega) (HSP.out wD HWD.out) ?_)
      refine hK.out _ _ ?_ (fun hHeld => ?_)
      · trivial
      clear hK K
      (try simp only [Act.put, List.getElem_toArray, List.getElem_cons_zero, List.getElem_cons_succ, List.setIfInBounds_toArray, List.set_cons_zero, List.set_cons_succ])
      refine wpAnyH_done (by kernel_rfl) ?_ _
      change wpList _ _ _ _ _ _
      simp only [List.drop_succ_cons, List.drop_zero]
      have hgd : wD.heap[g]? = some (.cells cur 36 (0, 0)) := HWD.out.keep HG.out (fun x => x)
      have hb5 := setCells_block (b := g) (xs.drop (j * 4)) (off + i * 4) hgd
      have HC5 := Lib.hid (Chg.setCells (b := g) (xs.drop (j * 4)) wD (off + i * 4))
      go_upto_region 6 with fail
      generalize wD.setCells g (off + i * 4) (xs.drop (j * 4)) = w5 at *
      have HB5 := Lib.hid hb5
      have hclr := run_clear_row (P := Tryd.prog) w5 44 36 0 i0 z 4 (putAt cur (off + i * 4) (xs.drop (j * 4))) Tryd.underlying44 HI.out HZ.out HSZ.out HZS.out HZO.out g (off + (i + m) * 4) (j - i) (cap - (i + m)) hb5 (by rw [putAt_size]; have := HB.out; have := HBC.out; omega) (by have := HB.out; omega)
      have HF := Lib.hid (HFIN.out w5 hb5)
      have hc6 := Chg.setCells (b := g) (Builtin.zeroCells z.cells (j - i)).toList w5 (off + (i + m) * 4)
      have HC6 := Lib.hid hc6
      have tn1 : ((i : Int) + (m : Int)).toNat = i + m := by omega
      have tn2 : ((j : Int) + (m : Int)).toNat = j + m := by omega
      have b1 : (0 : Int) ≤ (i : Int) + (m : Int) := by omega
      have b2 : (i : Int) + (m : Int) ≤ (j : Int) + (m : Int) := by omega
      have b3 : (j : Int) + (m : Int) ≤ (cap : Int) := by omega
      have b4 : j + m - (i + m) = j - i := by omega
      clear hc6 hgd hb5 HFIN
      generalize (Builtin.zeroCells z.cells (j - i)).toList = Z at *
      go_wp2_with fail
      go_ret
      refine ⟨_, rfl, ?_, ((HWD.out.trans HC5.out (fun _ _ x => x.elim) (fun _ _ x => x)).trans' HC6.out).mono (fun k _ e => by subst e; rfl), fun k h => h⟩
      rw [show j + m - (j - i) = i + m from by have := HB.out; omega]
      exact HF.out

set_option maxHeartbeats 6400000 in
set_option maxRecDepth 100000 in
theorem delP_any (w : World) (v : Value) (n i j : Nat) (xs : List Value) (hr : RowAt w 86 5 v n xs) (h1c : ∀ u ∈ xs, u.oneCell' = true) (hij : i ≤ j) (hj : j ≤ n) (hl : n ≤ 1000000) :
    Calls Tryd.prog 45 #[v, .int .i64 (i : Int), .int .i64 (j : Int)] w fun e w' => ∃ v', e = .returned v' ∧ RowAt w' 86 5 v' (n - (j - i)) (xs.take (i * 5) ++ xs.drop (j * 5)) ∧ Chg (fun k => v.ownBlock = some k) w w' ∧ (∀ k, v'.ownBlock = some k → v.ownBlock = some k) := by
  obtain ⟨m, hm⟩ : ∃ m, n = j + m := ⟨n - j, by omega⟩
  subst hm
  have i0' : (0 : Int) ≤ (i : Int) := by omega
  have j0' : (0 : Int) ≤ (j : Int) := by omega
  have ij' : (i : Int) ≤ (j : Int) := by omega
  have jn' : (j : Int) ≤ ((j + m : Nat) : Int) := by omega
  obtain ⟨a, cap, rfl, hnc, hcm⟩ := hr.slice
  by_cases he : i = j
  · subst he
    have HR := Lib.hid hr
    clear hr hij hj hl h1c
    have fin : ∀ W, W = w → RowAt W 86 5 (.slice a (i + m) cap) (i + m - (i - i)) (xs.take (i * 5) ++ xs.drop (i * 5)) := fun W e => by
      rw [e, Nat.sub_self, Nat.sub_zero, List.take_append_drop]; exact HR.out
    have FIN := Lib.hid fin
    clear fin
    rcases Nat.eq_zero_or_pos m with rfl | hmp
    · go_enter Tryd.func45, Tryd.ntmps45
      go_wp2_with fail
      go_ret
      exact ⟨_, rfl, by first | exact FIN.out _ rfl | simpa using FIN.out w rfl, Chg.refl _ _, fun k h => h⟩
    · have ne1 : ¬ i + m = i := by omega
      have ne2 : ¬ m = 0 := by omega
      go_enter Tryd.func45, Tryd.ntmps45
      go_wp2_with fail
      go_ret
      exact ⟨_, rfl, by first | exact FIN.out _ rfl | simpa using FIN.out w rfl, Chg.refl _ _, fun k h => h⟩
  · obtain ⟨g, off, cap', hv, hblk⟩ := hr.addr (by omega)
    cases hv
    obtain ⟨i0, z, hi, hz, hsz, hby, hzs, hzl⟩ := elemZ_prop
    have HZO := Lib.hid (show ∀ u ∈ z.cells.toList, u.oneCell' = true from fun u hu => by rw [hzl] at hu; simp only [List.mem_cons, List.not_mem_nil, or_false] at hu; rcases hu with rfl | rfl | rfl | rfl | rfl <;> rfl)
    have hxl := hr.1
    obtain ⟨g', off', cap'', cur, hv, hg, h1, h2, h3, h4⟩ : ∃ g' off' cap'' cur, Value.slice (some ⟨g, off, none⟩) (j + m) cap = .slice (some ⟨g', off', none⟩) (j + m) cap'' ∧ w.heap[g']? = some (.cells cur 86 (0, 0)) ∧ j + m ≤ cap'' ∧ cap'' ≤ maxLen ∧ off' + cap'' * 5 ≤ cur.size ∧ (cur.toList.drop off').take ((j + m) * 5) = xs := by
      rcases hr.2 with ⟨hv, -⟩ | h
      · cases hv
      · exact h
    cases hv
    have HG := Lib.hid hg
    have HB := Lib.hid (show j + m ≤ cap ∧ i < j ∧ j + m ≤ 1000000 from ⟨h1, by omega, hl⟩)
    have HBC := Lib.hid h3
    have HXS := Lib.hid h4
    have HI := Lib.hid hi
    have HZ := Lib.hid hz
    have HSZ := Lib.hid hsz
    have HZS := Lib.hid hzs
    have HR := Lib.hid hr
    have HXL := Lib.hid hxl
    have HCM := Lib.hid hcm
    have H1 := Lib.hid h1c
    have ne1 : ¬ j + m = i := by omega
    have ne2 : ¬ cap = 0 := by omega
    have ne3 : ¬ cap = i + m := by omega
    have ne4 : (i : Int) ≠ (j : Int) := by omega
    have ne5 : ((i : Int) == (j : Int)) = false := beq_false_of_ne ne4
    have c1 : (i : Int) ≤ (cap : Int) := by omega
    have c3 : (j : Int) ≤ (j : Int) + (m : Int) := by omega
    have c2 : ((j + m : Nat) : Int) ≤ (cap : Int) := by omega
    clear hg h1 h2 h3 h4 h1c hi hz hsz hzs hby hzl hr hxl hij hj hl hnc hcm hblk
    have HNL : Hid ((xs.drop (j * 5)).length = m * 5) := Lib.hid (by rw [List.length_drop, HXL.out]; omega)
    have HNO : Hid (∀ u ∈ xs.drop (j * 5), u.oneCell' = true) := Lib.hid (fun u hu => H1.out u (List.mem_of_mem_drop hu))
    have HSP : Hid (∀ W, Chg (fun _ => False) w W → ∀ q, q < (xs.drop (j * 5)).length → (W.cell? ⟨g, off + i * 5 + q, none⟩).isSome = true ∧ W.frozen? ⟨g, off + i * 5 + q, none⟩ = false) := Lib.hid (fun W hc q hq => by
      have hb := hc.keep HG.out (fun x => x)
      rw [HNL.out] at hq
      exact ⟨by rw [cell_of_block hb (Array.getElem?_eq_getElem (by have := HB.out; have := HBC.out; omega))]; rfl, frozen_of_block hb⟩)
    have HFIN : Hid (∀ (w5 : World), w5.heap[g]? = some (.cells (putAt cur (off + i * 5) (xs.drop (j * 5))) 86 (0, 0)) → RowAt (w5.setCells g (off + (i + m) * 5) (Builtin.zeroCells z.cells (j - i)).toList) 86 5 (.slice (some ⟨g, off, none⟩) (i + m) cap) (i + m) (xs.take (i * 5) ++ xs.drop (j * 5))) := Lib.hid (fun w5 hb5 =>
      del_row hb5 HXS.out HXL.out HNL.out (by have := HB.out; omega) (by have := HB.out; omega) HCM.out HBC.out (by rw [Array.length_toList, size_zeroCells, HZS.out]; have := HB.out; have := HBC.out; omega))
    by_cases hcj : j = cap
    · subst hcj
      have hm0 : m = 0 := by have := HB.out; omega
      subst hm0
      simp only [Nat.add_zero, Nat.zero_mul] at HXS HXL ne1 HNL HB HR ne3 c2 HFIN jn'
      go_enter Tryd.func45, Tryd.ntmps45
      go_upto_region 5 with fail

      refine wp_region_held_split 7 (fun _ => True) (by kernel_rfl) (by kernel_rfl) ?_ (fun hHeld => ?_)
      · trivial
      simp only [List.take_succ_cons, List.take_zero]
      have HWD : Hid (Chg (fun _ => False) w w.drew) := Lib.hid (Chg.refl _ w).drewR
      generalize w.drew = wD at *
      refine wpAnyH_take (i := 0) (v := ?_) rfl (by kernel_rfl) (by kernel_rfl) (by kernel_rfl) (fun _ _ _ h => h) (Or.inl ⟨by rfl, ?_⟩) (by assumption) ?_
      rotate_left
      · (intro wq hSw; (try dsimp only at hSw); go_simp; (try with_reducible rfl))
      simp only [Act.put, List.getElem_toArray, List.getElem_cons_zero, List.getElem_cons_succ, List.setIfInBounds_toArray, List.set_cons_zero, List.set_cons_succ]
      refine wpAnyH_take (i := 1) (v := ?_) rfl (by kernel_rfl) (by kernel_rfl) (by kernel_rfl) (fun _ _ _ h => h) (Or.inl ⟨by rfl, ?_⟩) (by assumption) ?_
      rotate_left
      · (intro wq hSw; (try dsimp only at hSw); go_simp; (try with_reducible rfl))
      simp only [Act.put, List.getElem_toArray, List.getElem_cons_zero, List.getElem_cons_succ, List.setIfInBounds_toArray, List.set_cons_zero, List.set_cons_succ]
      refine wpAnyH_take (i := 2) (v := ?_) rfl (by kernel_rfl) (by kernel_rfl) (by kernel_rfl) (fun _ _ _ h => h) (Or.inl ⟨by rfl, ?_⟩) (by assumption) ?_
      rotate_left
      · (intro wq hSw; (try dsimp only at hSw); go_simp; (try with_reducible rfl))
      simp only [Act.put, List.getElem_toArray, List.getElem_cons_zero, List.getElem_cons_succ, List.setIfInBounds_toArray, List.set_cons_zero, List.set_cons_succ]
      refine wpAnyH_take (i := 3) (v := ?_) rfl (by kernel_rfl) (by kernel_rfl) (by kernel_rfl) (fun _ _ _ h => h) (Or.inl ⟨by rfl, ?_⟩) (by assumption) ?_
      rotate_left
      · (intro wq hSw; (try dsimp only at hSw); go_simp; (try with_reducible rfl))
      simp only [Act.put, List.getElem_toArray, List.getElem_cons_zero, List.getElem_cons_succ, List.setIfInBounds_toArray, List.set_cons_zero, List.set_cons_succ]
      refine wpAnyH_take (i := 4) (v := ?_) rfl (by kernel_rfl) (by kernel_rfl) (by kernel_rfl) (fun _ _ _ h => h) (Or.inl ⟨by rfl, ?_⟩) (by assumption) ?_
      rotate_left
      · (intro wq hSw; (try dsimp only at hSw); go_simp; (try with_reducible rfl))
      simp only [Act.put, List.getElem_toArray, List.getElem_cons_zero, List.getElem_cons_succ, List.setIfInBounds_toArray, List.set_cons_zero, List.set_cons_succ]
      refine wpAnyH_take (i := 5) (v := ?_) rfl (by kernel_rfl) (by kernel_rfl) (by kernel_rfl) (fun _ _ _ h => h) (Or.inl ⟨by rfl, ?_⟩) (by assumption) ?_
      rotate_left
      · (intro wq hSw; (try dsimp only at hSw); go_simp; (try with_reducible rfl))
      simp only [Act.put, List.getElem_toArray, List.getElem_cons_zero, List.getElem_cons_succ, List.setIfInBounds_toArray, List.set_cons_zero, List.set_cons_succ]
      refine wpAnyH_ready (rs := [6]) (by kernel_rfl) (by simp) ?_
      refine AllReadyH.cons (by simp only [List.getElem?_toArray, List.getElem?_cons_succ, List.getElem?_cons_zero]; rfl) (fun K hK => ?_) AllReadyH.nil
      (refine step_append_room (by rfl) _ _ _ (by rfl) 86 i0 5 Tryd.underlying43 HI.out HSZ.out g off i j (by rfl) ⟨g, off, none⟩ 0 0 (xs.drop (j * 5)) (by rfl) HNL.out (fun q u hu => by have h0 := (List.getElem?_eq_some_iff.1 hu).1; rw [HNL.out] at h0; omega) HNO.out (by have := HB.out.1; omega) (HSP.out wD HWD.out) ?_)
      refine hK.out _ _ ?_ (fun hHeld => ?_)
      · trivial
      clear hK K
      (try simp only [Act.put, List.getElem_toArray, List.getElem_cons_zero, List.getElem_cons_succ, List.setIfInBounds_toArray, List.set_cons_zero, List.set_cons_succ])
      refine wpAnyH_done (by kernel_rfl) ?_ _
      change wpList _ _ _ _ _ _
      simp only [List.drop_succ_cons, List.drop_zero]
      have hgd : wD.heap[g]? = some (.cells cur 86 (0, 0)) := HWD.out.keep HG.out (fun x => x)
      have hb5 := setCells_block (b := g) (xs.drop (j * 5)) (off + i * 5) hgd
      have HC5 := Lib.hid (Chg.setCells (b := g) (xs.drop (j * 5)) wD (off + i * 5))
      go_upto_region 6 with fail
      generalize wD.setCells g (off + i * 5) (xs.drop (j * 5)) = w5 at *
      have HB5 := Lib.hid hb5
      have hclr := run_clear_row (P := Tryd.prog) w5 43 86 0 i0 z 5 (putAt cur (off + i * 5) (xs.drop (j * 5))) Tryd.underlying43 HI.out HZ.out HSZ.out HZS.out HZO.out g (off + i * 5) (j - i) (j - i) hb5 (by rw [putAt_size]; have := HB.out; have := HBC.out; omega) (by have := HB.out; omega)
      have HF := Lib.hid (HFIN.out w5 hb5)
      have hc6 := Chg.setCells (b := g) (Builtin.zeroCells z.cells (j - i)).toList w5 (off + i * 5)
      have HC6 := Lib.hid hc6
      have tn1 : ((i : Int) + (0 : Int)).toNat = i := by omega
      have tn2 : ((j : Int) + (0 : Int)).toNat = j := by omega
      have b1 : (0 : Int) ≤ (i : Int) + (0 : Int) := by omega
      have b2 : (i : Int) + (0 : Int) ≤ (j : Int) + (0 : Int) := by omega
      have b3 : (j : Int) + (0 : Int) ≤ (j : Int) := by omega
      have b4 : j - i = j - i := by omega
      clear hc6 hgd hb5 HFIN
      generalize (Builtin.zeroCells z.cells (j - i)).toList = Z at *
      go_wp2_with fail
      go_ret
      refine ⟨_, rfl, ?_, ((HWD.out.trans HC5.out (fun _ _ x => x.elim) (fun _ _ x => x)).trans' HC6.out).mono (fun k _ e => by subst e; rfl), fun k h => h⟩
      rw [show j - (j - i) = i from by have := HB.out; omega]
      exact HF.out
    · have ne6 : ¬ cap = j := fun e => hcj e.symm
      clear hcj
      go_enter Tryd.func45, Tryd.ntmps45
      go_upto_region 5 with fail

      refine wp_region_held_split 7 (fun _ => True) (by kernel_rfl) (by kernel_rfl) ?_ (fun hHeld => ?_)
      · trivial
      simp only [List.take_succ_cons, List.take_zero]
      have HWD : Hid (Chg (fun _ => False) w w.drew) := Lib.hid (Chg.refl _ w).drewR
      generalize w.drew = wD at *
      refine wpAnyH_take (i := 0) (v := ?_) rfl (by kernel_rfl) (by kernel_rfl) (by kernel_rfl) (fun _ _ _ h => h) (Or.inl ⟨by rfl, ?_⟩) (by assumption) ?_
      rotate_left
      · (intro wq hSw; (try dsimp only at hSw); go_simp; (try with_reducible rfl))
      simp only [Act.put, List.getElem_toArray, List.getElem_cons_zero, List.getElem_cons_succ, List.setIfInBounds_toArray, List.set_cons_zero, List.set_cons_succ]
      refine wpAnyH_take (i := 1) (v := ?_) rfl (by kernel_rfl) (by kernel_rfl) (by kernel_rfl) (fun _ _ _ h => h) (Or.inl ⟨by rfl, ?_⟩) (by assumption) ?_
      rotate_left
      · (intro wq hSw; (try dsimp only at hSw); go_simp; (try with_reducible rfl))
      simp only [Act.put, List.getElem_toArray, List.getElem_cons_zero, List.getElem_cons_succ, List.setIfInBounds_toArray, List.set_cons_zero, List.set_cons_succ]
      refine wpAnyH_take (i := 2) (v := ?_) rfl (by kernel_rfl) (by kernel_rfl) (by kernel_rfl) (fun _ _ _ h => h) (Or.inl ⟨by rfl, ?_⟩) (by assumption) ?_
      rotate_left
      · (intro wq hSw; (try dsimp only at hSw); go_simp; (try with_reducible rfl))
      simp only [Act.put, List.getElem_toArray, List.getElem_cons_zero, List.getElem_cons_succ, List.setIfInBounds_toArray, List.set_cons_zero, List.set_cons_succ]
      refine wpAnyH_take (i := 3) (v := ?_) rfl (by kernel_rfl) (by kernel_rfl) (by kernel_rfl) (fun _ _ _ h => h) (Or.inl ⟨by rfl, ?_⟩) (by assumption) ?_
      rotate_left
      · (intro wq hSw; (try dsimp only at hSw); go_simp; (try with_reducible rfl))
      simp only [Act.put, List.getElem_toArray, List.getElem_cons_zero, List.getElem_cons_succ, List.setIfInBounds_toArray, List.set_cons_zero, List.set_cons_succ]
      refine wpAnyH_take (i := 4) (v := ?_) rfl (by kernel_rfl) (by kernel_rfl) (by kernel_rfl) (fun _ _ _ h => h) (Or.inl ⟨by rfl, ?_⟩) (by assumption) ?_
      rotate_left
      · (intro wq hSw; (try dsimp only at hSw); go_simp; (try with_reducible rfl))
      simp only [Act.put, List.getElem_toArray, List.getElem_cons_zero, List.getElem_cons_succ, List.setIfInBounds_toArray, List.set_cons_zero, List.set_cons_succ]
      refine wpAnyH_take (i := 5) (v := ?_) rfl (by kernel_rfl) (by kernel_rfl) (by kernel_rfl) (fun _ _ _ h => h) (Or.inl ⟨by rfl, ?_⟩) (by assumption) ?_
      rotate_left
      · (intro wq hSw; (try dsimp only at hSw); go_simp; (try with_reducible rfl))
      simp only [Act.put, List.getElem_toArray, List.getElem_cons_zero, List.getElem_cons_succ, List.setIfInBounds_toArray, List.set_cons_zero, List.set_cons_succ]
      refine wpAnyH_ready (rs := [6]) (by kernel_rfl) (by simp) ?_
      refine AllReadyH.cons (by simp only [List.getElem?_toArray, List.getElem?_cons_succ, List.getElem?_cons_zero]; rfl) (fun K hK => ?_) AllReadyH.nil
      (refine step_append_room (by rfl) _ _ _ (by rfl) 86 i0 5 Tryd.underlying43 HI.out HSZ.out g off i cap (by rfl) ⟨g, off + j * 5, none⟩ m (cap - j) (xs.drop (j * 5)) (by rfl) HNL.out (fun q u hu => by rw [add_none4]; exact (HR.out.chg HWD.out (fun _ _ x => x)).cellAt (j * 5 + q) u (by rw [List.getElem?_drop] at hu; exact hu)) HNO.out (by have := HB.out.1; omega) (HSP.out wD HWD.out) ?_)
      refine hK.out _ _ ?_ (fun hHeld => ?_)
      · trivial
      clear hK K
      (try simp only [Act.put, List.getElem_toArray, List.getElem_cons_zero, List.getElem_cons_succ, List.setIfInBounds_toArray, List.set_cons_zero, List.set_cons_succ])
      refine wpAnyH_done (by kernel_rfl) ?_ _
      change wpList _ _ _ _ _ _
      simp only [List.drop_succ_cons, List.drop_zero]
      have hgd : wD.heap[g]? = some (.cells cur 86 (0, 0)) := HWD.out.keep HG.out (fun x => x)
      have hb5 := setCells_block (b := g) (xs.drop (j * 5)) (off + i * 5) hgd
      have HC5 := Lib.hid (Chg.setCells (b := g) (xs.drop (j * 5)) wD (off + i * 5))
      go_upto_region 6 with fail
      generalize wD.setCells g (off + i * 5) (xs.drop (j * 5)) = w5 at *
      have HB5 := Lib.hid hb5
      have hclr := run_clear_row (P := Tryd.prog) w5 43 86 0 i0 z 5 (putAt cur (off + i * 5) (xs.drop (j * 5))) Tryd.underlying43 HI.out HZ.out HSZ.out HZS.out HZO.out g (off + (i + m) * 5) (j - i) (cap - (i + m)) hb5 (by rw [putAt_size]; have := HB.out; have := HBC.out; omega) (by have := HB.out; omega)
      have HF := Lib.hid (HFIN.out w5 hb5)
      have hc6 := Chg.setCells (b := g) (Builtin.zeroCells z.cells (j - i)).toList w5 (off + (i + m) * 5)
      have HC6 := Lib.hid hc6
      have tn1 : ((i : Int) + (m : Int)).toNat = i + m := by omega
      have tn2 : ((j : Int) + (m : Int)).toNat = j + m := by omega
      have b1 : (0 : Int) ≤ (i : Int) + (m : Int) := by omega
      have b2 : (i : Int) + (m : Int) ≤ (j : Int) + (m : Int) := by omega
      have b3 : (j : Int) + (m : Int) ≤ (cap : Int) := by omega
      have b4 : j + m - (i + m) = j - i := by omega
      clear hc6 hgd hb5 HFIN
      generalize (Builtin.zeroCells z.cells (j - i)).toList = Z at *
      go_wp2_with fail
      go_ret
      refine ⟨_, rfl, ?_, ((HWD.out.trans HC5.out (fun _ _ x => x.elim) (fun _ _ x => x)).trans' HC6.out).mono (fun k _ e => by subst e; rfl), fun k h => h⟩
      rw [show j + m - (j - i) = i + m from by have := HB.out; omega]
      exact HF.out
end Go.Proofs.YtjianickjahdnaaDoor
namespace Go.Proofs.YtjianickjahdnaaDoor
open Go.RowKit
set_option linter.unusedVariables false
set_option linter.unusedSimpArgs false

theorem elem_str : Elem Tryd.prog 9 1 16 := elem_of (by kernel_rfl)
def strC (l : List ByteArray) : List Value := l.map (Value.string)
theorem strC_ones (l : List ByteArray) : Ones (strC l) := fun u hu => by
  obtain ⟨x, -, rfl⟩ := List.mem_map.1 hu
  rfl
theorem strC_len (l : List ByteArray) : (strC l).length = l.length := List.length_map ..
/-- A list of strings, made behind w0. -/
structure OutS (w0 w : World) (v : Value) (l : List ByteArray) : Prop where
  row : RowAt w 9 1 v l.length (strC l)
  lo : ∀ k, v.ownBlock = some k → w0.heap.size ≤ k
  chg : Chg (fun _ => False) w0 w
section
variable {w0 w w1 w2 : World} {v : Value} {l m : List ByteArray}
theorem OutS.nil (w : World) : OutS w w (.slice none 0 0) [] := ⟨RowAt.nil _ _ _, fun k hk => by simp [Value.ownBlock] at hk, Chg.refl _ _⟩
theorem OutS.still (h : OutS w0 w v l) (hc : Chg (fun _ => False) w w1) : OutS w0 w1 v l := ⟨h.row.chg hc (fun _ _ x => x), h.lo, h.chg.trans' hc⟩
theorem OutS.drew (h : OutS w0 w v l) : OutS w0 w.drew v l := h.still ((Chg.refl _ w).drewR)
theorem OutS.alloc (h : OutS w0 w v l) (o : _root_.Go.Obj) : OutS w0 (w.alloc o) v l := h.still (Chg.alloc _ w o)
theorem OutS.val (h : OutS w0 w v l) : ∃ a cap, v = .slice a l.length cap ∧ l.length ≤ cap ∧ cap ≤ maxLen := h.row.slice
theorem OutS.at (h : OutS w0 w v l) {k : Nat} (hk : k < l.length) : ∃ g off cap, v = .slice (some ⟨g, off, none⟩) l.length cap ∧ w.cell? ⟨g, off + k, none⟩ = some (.string l[k]) := by
  obtain ⟨g, off, cap, rfl, -, -⟩ := h.row.addr (by omega)
  exact ⟨g, off, cap, rfl, h.row.cellAt k _ (by simp [strC, hk])⟩
/-- Kept by what changes other blocks alone. -/
theorem OutS.other {S : Nat → Prop} (h : OutS w0 w v l) (hc : Chg S w w1) (hn : ∀ k, v.ownBlock = some k → ¬ S k) (hS : ∀ k, k < w0.heap.size → ¬ S k) : OutS w0 w1 v l :=
  ⟨h.row.chg hc hn, h.lo, h.chg.trans hc (fun _ _ x => x) (fun i hi x => hS i hi x)⟩
theorem OutS.lt (h : OutS w0 w v l) : ∀ k, v.ownBlock = some k → k < w.heap.size := h.row.lt
end
theorem OutS.from {w0 wa w : World} {v : Value} {l : List ByteArray} (h : OutS wa w v l) (hc : Chg (fun _ => False) w0 wa) : OutS w0 w v l := ⟨h.row, fun k hk => Nat.le_trans hc.size (h.lo k hk), hc.trans' h.chg⟩
/-- append in a region that draws. -/
theorem step_outS {W w0 : World} {ops : Array Oper} {o : Oper} {a : Act} {K : Act → World → Prop} {Q : Exit → Act → World → Prop} {E : Prop} (hgd : o.guard = none) (s x : Operand)
    (ho : o.op = .call { callee := .builtin .append, args := #[s, x], argTypes := #[56, 56] })
    (v : Value) (l : List ByteArray) (hsv : a.eval s = v) (H : OutS w0 W v l) (xv : Value) (m : List ByteArray) (hx : a.eval x = xv) (hxr : RowAt W 9 1 xv m.length (strC m)) (hf : Few (l.length + m.length))
    (h : ∀ a1 n1 c1 w', OutS w0 w' (.slice a1 n1 c1) (l ++ m) → Chg (fun k => v.ownBlock = some k) W w' → (∀ k, (Value.slice a1 n1 c1).ownBlock = some k → v.ownBlock = some k ∨ W.heap.size ≤ k) → K (a.put o.dst (.slice a1 n1 c1)) w') :
    if Region.wanted o (yielded ops a.tmps) = true then Oper.wp Tryd.prog o a W K Q else E := by
  refine step_append_rows hgd s x 56 ho 9 1 16 Tryd.underlying56 elem_str (by decide) v l.length (strC l) hsv H.row xv m.length (strC m) hx hxr (strC_ones m) (by have := hf.lt; unfold maxLen; omega) (by have := hf.lt; omega) ?_
  intro a1 n1 c1 w' hrow hchg hold
  refine h a1 n1 c1 w' ⟨?_, fun k hk => ?_, ?_⟩ hchg hold
  · have : strC l ++ strC m = strC (l ++ m) := by simp [strC]
    rw [List.length_append, ← this]; exact hrow
  · rcases hold k hk with x | x
    · exact H.lo k x
    · exact Nat.le_trans H.chg.size x
  · exact H.chg.trans hchg (fun _ _ x => x) (fun i hi x => by have := H.lo i x; omega)
/-- append to such a list. -/
theorem wpList_outS {W w0 : World} {ops : Array Oper} {rest : List Oper} {o : Oper} {a : Act} {Q : Exit → Act → World → Prop} (hgd : o.guard = none) (s x : Operand)
    (ho : o.op = .call { callee := .builtin .append, args := #[s, x], argTypes := #[56, 56] })
    (v : Value) (l : List ByteArray) (hsv : a.eval s = v) (H : OutS w0 W v l) (xv : Value) (m : List ByteArray) (hx : a.eval x = xv) (hxr : RowAt W 9 1 xv m.length (strC m)) (hf : Few (l.length + m.length))
    (h : ∀ a1 n1 c1 w', OutS w0 w' (.slice a1 n1 c1) (l ++ m) → Chg (fun k => v.ownBlock = some k) W w' → (∀ k, (Value.slice a1 n1 c1).ownBlock = some k → v.ownBlock = some k ∨ W.heap.size ≤ k) → wpList Tryd.prog ops Q rest (a.put o.dst (.slice a1 n1 c1)) w') :
    wpList Tryd.prog ops Q (o :: rest) a W := by
  refine list_append_rows hgd s x 56 ho 9 1 16 Tryd.underlying56 elem_str (by decide) v l.length (strC l) hsv H.row xv m.length (strC m) hx hxr (strC_ones m) (by have := hf.lt; unfold maxLen; omega) (by have := hf.lt; omega) ?_
  intro a1 n1 c1 w' hrow hchg hold
  refine h a1 n1 c1 w' ⟨?_, fun k hk => ?_, ?_⟩ hchg hold
  · have : strC l ++ strC m = strC (l ++ m) := by simp [strC]
    rw [List.length_append, ← this]; exact hrow
  · rcases hold k hk with x | x
    · exact H.lo k x
    · exact Nat.le_trans H.chg.size x
  · exact H.chg.trans hchg (fun _ _ x => x) (fun i hi x => by have := H.lo i x; omega)

structure HS (w W : World) (bh : Nat) (hp : Hp) (v : Value) (L : List ByteArray) (F : List Nat) : Prop where
  heap : Own hpR w W bh 0 hp F
  li : OutS w W v L
  d : ∀ k ∈ bh :: F, k ∉ ownL v
section
variable {w W W' : World} {bh : Nat} {hp hp' : Hp} {v v' : Value} {L L' : List ByteArray} {F : List Nat}
theorem HS.still (h : HS w W bh hp v L F) (hc : Chg (fun _ => False) W W') : HS w W' bh hp v L F := ⟨h.heap.still hc, h.li.still hc, h.d⟩
theorem HS.heapS (h : HS w W bh hp v L F) (hp1 : Post hpR W bh 0 hp' F W') : ∃ F', HS w W' bh hp' v L F' := by
  obtain ⟨F', h1, h2⟩ := hp1
  have hS : ∀ k, (k = bh ∨ k ∈ F) → k ∈ bh :: F := fun k x => x.elim (fun e => e ▸ List.mem_cons_self ..) (List.mem_cons_of_mem _)
  have hlo : ∀ k, (k = bh ∨ k ∈ F) → w.heap.size ≤ k := fun k x => h.heap.allLo k (hS k x)
  exact ⟨F', h.heap.step h1 h2, h.li.other h2.chg (fun k hk x => h.d k (hS k x) (mem_ownL.2 hk)) (fun k hk x => by have := hlo k x; omega),
    apart_grow h.d h2.new (fun k hk => h.li.row.lt k (mem_ownL.1 hk))⟩
theorem HS.liS (h : HS w W bh hp v L F) (hc : Chg (fun k => v.ownBlock = some k) W W') (ho : OutS w W' v' L') (hold : ∀ k, v'.ownBlock = some k → v.ownBlock = some k ∨ W.heap.size ≤ k) : HS w W' bh hp v' L' F :=
  ⟨h.heap.beside hc (fun k hk x => h.d k hk (mem_ownL.2 x)) h.li.lo, ho, fun k hk x => by
    rcases hold k (mem_ownL.1 x) with y | y
    · exact h.d k hk (mem_ownL.2 y)
    · have := h.heap.allLt k hk; omega⟩
theorem HS.of (h : Own hpR w W bh 0 hp F) : HS w W bh hp (.slice none 0 0) [] F :=
  ⟨h, ⟨RowAt.nil _ _ _, fun k hk => by simp [Value.ownBlock] at hk, h.chg⟩, fun k hk x => by simp [ownL, Value.ownBlock] at x⟩
end
/-- A heap, a list under construction, and rows that stay. -/
structure HK (w W : World) (bh : Nat) (hp : Hp) (F : List Nat) (v : Value) (L : List ByteArray) (R : List (Value × List ByteArray)) : Prop where
  heap : Own hpR w W bh 0 hp F
  li : OutS w W v L
  d : ∀ k ∈ bh :: F, k ∉ ownL v
  rows : ∀ r ∈ R, RowAt W 9 1 r.1 r.2.length (strC r.2) ∧ ∀ k, v.ownBlock = some k → r.1.ownBlock ≠ some k
section
variable {w W W' : World} {bh : Nat} {hp : Hp} {F : List Nat} {v v' : Value} {L L' : List ByteArray} {R : List (Value × List ByteArray)}
theorem HK.start (h : HS w W bh hp v L F) : HK w W bh hp F (.slice none 0 0) [] [(v, L)] :=
  ⟨h.heap, ⟨RowAt.nil _ _ _, fun k hk => by simp [Value.ownBlock] at hk, h.heap.chg⟩, fun k hk x => by simp [ownL, Value.ownBlock] at x, fun r hr => by
    rw [List.mem_singleton] at hr
    subst hr
    exact ⟨h.li.row, fun k hk => by simp [Value.ownBlock] at hk⟩⟩
theorem HK.still (h : HK w W bh hp F v L R) (hc : Chg (fun _ => False) W W') : HK w W' bh hp F v L R :=
  ⟨h.heap.still hc, h.li.still hc, h.d, fun r hr => ⟨(h.rows r hr).1.chg hc (fun _ _ x => x), (h.rows r hr).2⟩⟩
theorem HK.fresh (h : HK w W bh hp F (.slice none 0 0) [] R) : HK w (W.alloc (.cells #[] 9)) bh hp F (.slice (some ⟨W.heap.size, 0, none⟩) 0 0) [] R := by
  have hc := Chg.alloc (fun _ => False) W (.cells #[] 9)
  have hob : ∀ k, (Value.slice (some ⟨W.heap.size, 0, none⟩) 0 0).ownBlock = some k → k = W.heap.size := fun k hk => by simpa [Value.ownBlock, eq_comm] using hk
  refine ⟨h.heap.still hc, ⟨RowAt.fresh W _ 1 _ rfl, fun k hk => by rw [hob k hk]; exact h.heap.chg.size, h.li.chg.trans' hc⟩, fun k hk x => ?_, fun r hr => ⟨(h.rows r hr).1.chg hc (fun _ _ x => x), fun k hk e => ?_⟩⟩
  · have := hob k (mem_ownL.1 x)
    have := h.heap.allLt k hk
    omega
  · have := hob k hk
    have := (h.rows r hr).1.lt k e
    omega
theorem HK.lit (h : HK w W bh hp F v L R) (key : ByteArray) : HK w (W.alloc (.cells #[.string key] 9)) bh hp F v L ((.slice (some ⟨W.heap.size, 0, none⟩) 1 1, [key]) :: R) := by
  have hc := Chg.alloc (fun _ => False) W (.cells #[.string key] 9)
  refine ⟨h.heap.still hc, h.li.still hc, h.d, fun r hr => ?_⟩
  rcases List.mem_cons.1 hr with rfl | hr
  · refine ⟨RowAt.lit [.string key] rfl (by simp [maxLen]), fun k hk e => ?_⟩
    have h1 : W.heap.size = k := by simpa [Value.ownBlock] using e
    have := h.li.lt k hk
    omega
  · exact ⟨(h.rows r hr).1.chg hc (fun _ _ x => x), (h.rows r hr).2⟩
theorem HK.app (h : HK w W bh hp F v L R) (hc : Chg (fun k => v.ownBlock = some k) W W') (ho : OutS w W' v' L') (hold : ∀ k, v'.ownBlock = some k → v.ownBlock = some k ∨ W.heap.size ≤ k) : HK w W' bh hp F v' L' R := by
  refine ⟨h.heap.beside hc (fun k hk x => h.d k hk (mem_ownL.2 x)) h.li.lo, ho, fun k hk x => ?_, fun r hr => ⟨(h.rows r hr).1.chg hc (fun k hk x => (h.rows r hr).2 k x hk), fun k hk e => ?_⟩⟩
  · rcases hold k (mem_ownL.1 x) with y | y
    · exact h.d k hk (mem_ownL.2 y)
    · have := h.heap.allLt k hk; omega
  · rcases hold k hk with y | y
    · exact (h.rows r hr).2 k y e
    · have := (h.rows r hr).1.lt k e; omega
theorem HK.done (h : HK w W bh hp F v L R) : HS w W bh hp v L F := ⟨h.heap, h.li, h.d⟩
end
theorem strC_take (L : List ByteArray) (k : Nat) : (strC L).take k = strC (L.take k) := by unfold strC; rw [List.map_take]
theorem strC_drop (L : List ByteArray) (k : Nat) : (strC L).drop k = strC (L.drop k) := by unfold strC; rw [List.map_drop]
theorem RowAt.preS {W : World} {p : Option Addr} {n c k : Nat} {L : List ByteArray} (h : RowAt W 9 1 (.slice p n c) L.length (strC L)) (hk : k ≤ L.length) (hn : n = L.length) : RowAt W 9 1 (.slice p k c) (L.take k).length (strC (L.take k)) := by
  subst hn
  have := h.prefix hk
  rw [Nat.mul_one, strC_take] at this
  rwa [show (L.take k).length = k by rw [List.length_take]; omega]
theorem RowAt.sufS {W : World} {g off n c k : Nat} {L : List ByteArray} (h : RowAt W 9 1 (.slice (some ⟨g, off, none⟩) n c) L.length (strC L)) (hk : k ≤ L.length) (hn : n = L.length) : RowAt W 9 1 (.slice (if c = k then some ⟨g, off, none⟩ else some ⟨g, off + k, none⟩) (n - k) (c - k)) (L.drop k).length (strC (L.drop k)) := by
  subst hn
  have := h.suffix hk
  unfold reslS at this
  rw [Nat.mul_one, strC_drop, Option.map_some, show (⟨g, off, none⟩ : Addr).add k = ⟨g, off + k, none⟩ from by unfold Addr.add; split <;> simp_all] at this
  rwa [show (L.drop k).length = L.length - k by rw [List.length_drop]]
end Go.Proofs.YtjianickjahdnaaDoor
