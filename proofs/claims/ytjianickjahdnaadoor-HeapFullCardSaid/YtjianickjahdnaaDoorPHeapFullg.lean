/-
  heap.Delete of a property (an object that is no array).
  heap.Keys of an object that is no array.
  heap.Own of an array; value.Normal of an integer.
  A range over a function whose body looks for something and may leave: a law.
  The iterator heap.chain.
  heap.Within.
  heap.resize.
  heap.Put of an array.
  heap.Lookup over objects that are no arrays.
-/
import Derived.Test.YtjianickjahdnaaDoorPHeapFullf
import Derived.Test.YtjianickjahdnaaDoorPHeapFulla
import Derived.Test.YtjianickjahdnaaDoorPHeapFullb
import Derived.Test.YtjianickjahdnaaDoorPHeapFulld
import Derived.RangeFuncNested
import Derived.RangeFuncBound
import Derived.RangeFuncCalls
import Derived.RangeFuncLeaves
import Derived.OwnWalkIn
import Derived.TacticsInMore
import Derived.LoopNIn
import Derived.LoopIn
import Derived.Test.YtjianickjahdnaaDoorPHeapFulle
import Derived.Shelf.Abstract
namespace Go.Proofs.YtjianickjahdnaaDoor
open Go.RowKit
set_option linter.unusedVariables false
set_option linter.unusedSimpArgs false

theorem cells_oneP (l : List Prp) : ∀ u ∈ l.flatMap Prp.cells, u.oneCell' = true := fun u hu => by
  obtain ⟨v, -, h⟩ := List.mem_flatMap.1 hu
  unfold Prp.cells at h
  simp only [List.mem_cons, List.not_mem_nil, or_false] at h
  rcases h with rfl | rfl | rfl | rfl | rfl <;> rfl
theorem flatP_take : ∀ (l : List Prp) (n : Nat), (l.flatMap Prp.cells).take (n * 5) = (l.take n).flatMap Prp.cells
  | [], n => by simp
  | a :: l, 0 => by simp
  | a :: l, n + 1 => by
    have ih := flatP_take l n
    have hl : a.cells.length = 5 := Prp.len a
    rw [List.flatMap_cons, List.take_succ_cons, List.flatMap_cons, show (n + 1) * 5 = a.cells.length + n * 5 by rw [hl]; omega, List.take_length_add_append, ih]
theorem flatP_drop : ∀ (l : List Prp) (n : Nat), (l.flatMap Prp.cells).drop (n * 5) = (l.drop n).flatMap Prp.cells
  | [], n => by simp
  | a :: l, 0 => by simp
  | a :: l, n + 1 => by
    have ih := flatP_drop l n
    have hl : a.cells.length = 5 := Prp.len a
    rw [List.flatMap_cons, List.drop_succ_cons, show (n + 1) * 5 = a.cells.length + n * 5 by rw [hl]; omega, List.drop_length_add_append, ih]
set_option maxHeartbeats 6400000 in
set_option maxRecDepth 100000 in
theorem del_not (w : World) (b : Nat) (hp : Hp) (F : List Nat) (h : Int) (i : Nat) (key : ByteArray) (H : Here hpR w b 0 hp F) (hi : -9223372036854775808 ≤ h ∧ h ≤ 9223372036854775807) (hs : slotOf hp h = some i) (hl : i < hp.slots.length) (hk : hp.slots[i].obj.kind ≠ 1)
    (hf : findP key hp.slots[i].obj.props 0 = none) :
    Calls Tryd.prog 26 #[.pointer (some ⟨b, 0, none⟩), .int .i64 h, .string key] w fun e w' => e = .returned (.bool true) ∧ Chg (fun _ => False) w w' := by
  obtain ⟨gh, oh, kh, c2, G, HOBJ0, hGF, hput⟩ := hpPut H hl
  obtain ⟨vp, ve, vd, vs, HOC⟩ := objOpen HOBJ0
  have z1 : (hp.slots[i].obj.kind == 1) = false := beq_false_of_ne hk
  have hat := hat_any _ b 0 hp F h _ H (by rw [Nat.zero_add]; exact c2) hi
  rw [hs, show objPtr (.slice (some ⟨gh, oh, none⟩) hp.slots.length kh) (some i) = some ⟨gh, oh + i * 11 + 1, none⟩ from rfl] at hat
  have HAT := Lib.hid hat
  have HC0 := Lib.hid HOC.c0
  have HC2 := Lib.hid HOC.c2
  have HRP := Lib.hid HOC.rp
  generalize hp.slots[i].obj = x at *
  have HF := Lib.hid hf
  clear HOBJ0 hGF hput HOC c2 hi hs H hk hat hf
  go_enter Tryd.func26, Tryd.ntmps26
  go_upto_region 4 with (go_at_call 35; refine HAT.out.mono ?_; rintro e wa ⟨rfl, hca⟩)
  have HC1 := Lib.hid hca
  have c0 := HC1.out.cell HC0.out
  have HPL := Lib.hid (place_any wa gh (oh + i * 11 + 1) _ x.props key (HC1.out.cell HC2.out) (HRP.out.chg HC1.out (fun _ _ x => x)))
  rw [HF.out] at HPL
  clear hca HAT
  go_upto_region 14 with (go_at_call 43; refine HPL.out.mono ?_; rintro e w5 ⟨rfl, hc5⟩)
  have HC5 := Lib.hid (HC1.out.trans' hc5)
  clear hc5 HPL c0 z1
  rw [show idxP none = -1 from rfl]
  go_wp2_with fail
  go_ret
  exact ⟨rfl, HC5.out⟩
set_option maxHeartbeats 6400000 in
set_option maxRecDepth 100000 in
theorem del_has (w : World) (b : Nat) (hp : Hp) (F : List Nat) (h : Int) (i : Nat) (key : ByteArray) (j : Nat) (H : Here hpR w b 0 hp F) (hi : -9223372036854775808 ≤ h ∧ h ≤ 9223372036854775807) (hs : slotOf hp h = some i) (hl : i < hp.slots.length) (hk : hp.slots[i].obj.kind ≠ 1)
    (hf : findP key hp.slots[i].obj.props 0 = some j) (hj : j < hp.slots[i].obj.props.length) (hlp : hp.slots[i].obj.props.length ≤ 10000) :
    Calls Tryd.prog 26 #[.pointer (some ⟨b, 0, none⟩), .int .i64 h, .string key] w fun e w' => e = .returned (.bool true) ∧ Post hpR w b 0 (putO hp i { hp.slots[i].obj with props := hp.slots[i].obj.props.take j ++ hp.slots[i].obj.props.drop (j + 1) }) F w' := by
  obtain ⟨gh, oh, kh, c2, G, HOBJ0, hGF, hput⟩ := hpPut H hl
  obtain ⟨vp, ve, vd, vs, HOC⟩ := objOpen HOBJ0
  have z1 : (hp.slots[i].obj.kind == 1) = false := beq_false_of_ne hk
  have hat := hat_any _ b 0 hp F h _ H (by rw [Nat.zero_add]; exact c2) hi
  rw [hs, show objPtr (.slice (some ⟨gh, oh, none⟩) hp.slots.length kh) (some i) = some ⟨gh, oh + i * 11 + 1, none⟩ from rfl] at hat
  have HAT := Lib.hid hat
  have HC0 := Lib.hid HOC.c0
  have HC2 := Lib.hid HOC.c2
  have HRP := Lib.hid HOC.rp
  generalize hx : hp.slots[i].obj = x at *
  have HX := Lib.hid hx
  have HF := Lib.hid hf
  have HOB := Lib.hid HOBJ0
  have HPT := Lib.hid hput
  have HBS : Hid (∀ k ∈ G, k < w.heap.size) := Lib.hid (fun k hk => H.lt.2 k (hGF k hk))
  have HJ := Lib.hid hj
  have HLE := Lib.hid hlp
  clear HOBJ0 hGF hput HOC c2 hi hs H hx hk hat hf hj hlp
  go_enter Tryd.func26, Tryd.ntmps26
  go_upto_region 4 with (go_at_call 35; refine HAT.out.mono ?_; rintro e wa ⟨rfl, hca⟩)
  have HC1 := Lib.hid hca
  have c0 := HC1.out.cell HC0.out
  have HPL := Lib.hid (place_any wa gh (oh + i * 11 + 1) _ x.props key (HC1.out.cell HC2.out) (HRP.out.chg HC1.out (fun _ _ x => x)))
  rw [HF.out] at HPL
  clear hca HAT
  go_upto_region 14 with (go_at_call 43; refine HPL.out.mono ?_; rintro e w5 ⟨rfl, hc5⟩)
  have HC5 := Lib.hid (HC1.out.trans' hc5)
  clear hc5 HPL c0 z1
  rw [show idxP (some j) = (j : Int) from rfl]
  have HOB5 := HOB.out.still HC5.out
  obtain ⟨v, c2, hr, hin, hnb, hback⟩ := HOB5.fieldFlat (f := Prp.cells) (hf := Prp.len) objR_props (by show 0 < 10; decide)
  obtain ⟨a, cap, rfl, -⟩ := hr.slice
  obtain ⟨cB, TB, hbB⟩ := HOB5.boxed
  have HD := Lib.hid (delP_any w5 _ x.props.length j (j + 1) _ hr (cells_oneP _) (by omega) HJ.out (by have := HLE.out; omega))
  rw [flatP_take, flatP_drop, ← List.flatMap_append, show x.props.length - (j + 1 - j) = x.props.length - 1 by omega] at HD
  have HBK := Lib.hid hback
  have FRZ : Hid (∀ (w2 : World), Chg (fun j => (Value.slice a x.props.length cap).ownBlock = some j) w5 w2 → w2.frozen? ⟨gh, oh + i * 11 + 1 + 2, none⟩ = false) := Lib.hid (fun w2 h1 => frozen_of_block (h1.keep hbB hnb))
  have CEL : Hid (∀ (w2 : World), Chg (fun j => (Value.slice a x.props.length cap).ownBlock = some j) w5 w2 → w2.cell? ⟨gh, oh + i * 11 + 1 + 2, none⟩ = some (.slice a x.props.length cap)) := Lib.hid (fun w2 h1 => by
    exact h1.cellS c2 hnb)
  have j0 : (0 : Int) ≤ (j : Int) := by omega
  have w64 : IntKind.i64.wrap ((j : Int) + 1) = ((j + 1 : Nat) : Int) := IntWalk.i64_in _ (by have := HLE.out; have := HJ.out; omega)
  clear hr hin hnb hback hbB HOB5
  go_upto_region 16 with (go_at_call 45; refine HD.out.mono ?_; rintro e w2 ⟨v2, rfl, hrow2, hchg2, hold2⟩; obtain ⟨a2, c2_, rfl, -⟩ := hrow2.slice; have z2 := FRZ.out _ hchg2; have z3 := CEL.out _ hchg2)
  have hP := HBK.out w2 _ (x.props.take j ++ x.props.drop (j + 1)) hchg2 (by rw [show (x.props.take j ++ x.props.drop (j + 1)).length = x.props.length - 1 by simp only [List.length_append, List.length_take, List.length_drop]; have := HJ.out; omega]; exact hrow2) (fun k hk => .inl (hold2 k hk))
  have HP := Lib.hid (HPT.out _ _ (Post.pre HC5.out hP))
  clear hP hrow2 hchg2 hold2 z2 z3
  go_wp2_with fail
  go_ret
  exact ⟨rfl, HP.out⟩
end Go.Proofs.YtjianickjahdnaaDoor
namespace Go.Proofs.YtjianickjahdnaaDoor
open Go.RowKit
set_option linter.unusedVariables false
set_option linter.unusedSimpArgs false

set_option maxHeartbeats 6400000 in
set_option maxRecDepth 100000 in
theorem keys_not (w : World) (b : Nat) (hp : Hp) (F : List Nat) (h : Int) (i : Nat) (H : Here hpR w b 0 hp F) (hi : -9223372036854775808 ≤ h ∧ h ≤ 9223372036854775807) (hs : slotOf hp h = some i) (hl : i < hp.slots.length) (hk : hp.slots[i].obj.kind ≠ 1) (hlp : hp.slots[i].obj.props.length ≤ 10000) :
    Calls Tryd.prog 27 #[.pointer (some ⟨b, 0, none⟩), .int .i64 h] w fun e w' => ∃ v', e = .returned v' ∧ OutS w w' v' (hp.slots[i].obj.props.map (·.key)) := by
  obtain ⟨gh, oh, kh, c2, G, HOBJ0, hGF, hput⟩ := hpPut H hl
  obtain ⟨vp, ve, vd, vs, HOC⟩ := objOpen HOBJ0
  have z1 : (hp.slots[i].obj.kind == 1) = false := beq_false_of_ne hk
  have hat := hat_any _ b 0 hp F h _ H (by rw [Nat.zero_add]; exact c2) hi
  rw [hs, show objPtr (.slice (some ⟨gh, oh, none⟩) hp.slots.length kh) (some i) = some ⟨gh, oh + i * 11 + 1, none⟩ from rfl] at hat
  have HAT := Lib.hid hat
  have HC0 := Lib.hid HOC.c0
  have HC2 := Lib.hid HOC.c2
  have hr := HOC.rp
  generalize hp.slots[i].obj = x at *
  obtain ⟨ad, cap, rfl, -, -⟩ := hr.slice
  have HR := Lib.hid hr
  generalize x.props = l at *
  have HL := Lib.hid hlp
  have hln : (l.length : Int) ≤ 9223372036854775807 := by omega
  clear HOBJ0 hGF hput HOC c2 hi hs H hk hat hr hlp
  go_enter Tryd.func27, Tryd.ntmps27
  go_upto_region 4 with (go_at_call 35; refine HAT.out.mono ?_; rintro e wa ⟨rfl, hca⟩)
  have HC1 := Lib.hid hca
  have c0 := HC1.out.cell HC0.out
  have c2 := HC1.out.cell HC2.out
  clear hca HAT
  go_upto_region 12 with fail
  go_loopw [6, 9, 39] (fun u6 _ u39 wr => ∃ (k : Nat) (a : Option Addr) (n c : Nat), k ≤ l.length ∧ u39 = .int .i64 k ∧ u6 = .slice a n c ∧ OutS wa wr (.slice a n c) ((l.take k).map (·.key))) (fun _ _ u _ => l.length - (intOf u).toNat)
  case atStart => exact ⟨0, none, 0, 0, by omega, rfl, rfl, OutS.nil wa⟩
  case round =>
    obtain ⟨k, a, n, c, hk, rfl, rfl, HO⟩ := hrel
    by_cases hlt : k < l.length
    · have h0 : (0 : Int) ≤ (k : Int) := by omega
      have h1 : (k : Int) < (l.length : Int) := by omega
      have hr2 := HR.out.chg (HC1.out.trans' HO.chg) (fun _ _ x => x)
      obtain ⟨g, off, cap', hv, -, -⟩ := hr2.addr (by omega)
      cases hv
      have hcell : ∀ j u, l[k].cells[j]? = some u → j < 5 → wr.cell? ⟨g, off + k * 5 + j, none⟩ = some u := fun j u hu hj => by
        rw [Nat.add_assoc]
        exact hr2.cellAt (k * 5 + j) u (by rw [flat_get _ 5 Prp.len l k j hlt hj]; exact hu)
      have e0 := hcell 0 _ rfl (by omega)
      have e1 := hcell 1 _ rfl (by omega)
      have e2 := hcell 2 _ rfl (by omega)
      have e3 := hcell 3 _ rfl (by omega)
      have e4 := hcell 4 _ rfl (by omega)
      rw [Nat.add_zero] at e0
      have w64 : IntKind.i64.wrap ((k : Int) + 1) = ((k + 1 : Nat) : Int) := IntWalk.i64_in _ (by omega)
      have HT : Hid ((l.take (k + 1)).map (·.key) = (l.take k).map (·.key) ++ [l[k].key]) := Lib.hid (by rw [List.take_succ_eq_append_getElem hlt, List.map_append]; rfl)
      have HLT := Lib.hid hlt
      have HFW : Hid (Few (((l.take k).map (·.key)).length + 1)) := Lib.hid (⟨by rw [List.length_map, List.length_take]; have := HL.out; omega⟩ : Few _)
      clear hcell hr2 hk
      generalize l[k] = z at *
      have HO1 := Lib.hid ((HO.alloc (.cells #[.string z.key, .int .i64 z.vkind, .int .i64 z.vint, .string z.vstr, .int .i64 z.vref] 86)).alloc (.cells #[.string z.key] 9))
      clear HO hlt
      go_wp2_with (first
        | (at_builtin; refine wpList_outS rfl (.tmp 43) (.tmp 46) rfl _ ((l.take k).map (·.key)) rfl HO1.out _ [z.key] rfl (RowAt.lit2 [.string z.key] rfl (by simp [maxLen])) HFW.out ?_; intro a2 n2 c2 w2 HO2 hch2 _))
      go_roundw
      case rel => exact ⟨k + 1, a2, n2, c2, HLT.out, rfl, rfl, by rw [HT.out]; exact HO2⟩
      case measure => have := HLT.out; simp [intOf, w64]; omega
    · have hk2 : k = l.length := by omega
      subst hk2
      rw [List.take_length] at HO
      have HO1 := Lib.hid HO
      clear HO hlt hk
      go_wp2_with fail
      go_ret
      exact ⟨_, rfl, HO1.out.from HC1.out⟩
end Go.Proofs.YtjianickjahdnaaDoor
namespace Go.Proofs.YtjianickjahdnaaDoor
open Go.RowKit
set_option linter.unusedVariables false
set_option linter.unusedSimpArgs false

set_option maxHeartbeats 400000 in
set_option maxRecDepth 100000 in
theorem vofA (h : Int) (w : World) :
    Calls Tryd.prog 25 #[.int .i64 h] w fun e w' => e = .returned (.agg #[.int .i64 3, .int .i64 h, .string ⟨#[]⟩, .int .i64 0]) ∧ Chg (fun _ => False) w w' := by
  go_enter Tryd.func25, Tryd.ntmps25
  go_wp2_with fail
  refine bodyPost_ret (results_cell_row rfl _ _ w.heap.size _ _ _ _ (by rfl) (heap_alloc_new _ _) Tryd.underlying36 rfl (by kernel_rfl)) rfl ?_
  exact ⟨rfl, Chg.alloc _ _ _⟩
set_option maxHeartbeats 3200000 in
set_option maxRecDepth 100000 in
theorem normal_int (h : Int) (w : World) :
    Calls Tryd.prog 37 #[.agg #[.int .i64 3, .int .i64 h, .string ⟨#[]⟩, .int .i64 0]] w fun e w' => e = .returned (.agg #[.int .i64 3, .int .i64 h, .string ⟨#[]⟩, .int .i64 0]) ∧ Chg (fun _ => False) w w' := by
  have hc2 := (Chg.alloc (fun _ => False) w (.cells #[.int .i64 3, .int .i64 h, .string ⟨#[]⟩, .int .i64 0] 36)).allocR (.cells #[.int .i64 0, .int .i64 0, .string ⟨#[]⟩, .int .i64 0] 36)
  have hb := alloc_block (w.alloc (.cells #[.int .i64 3, .int .i64 h, .string ⟨#[]⟩, .int .i64 0] 36)) (.cells #[.int .i64 0, .int .i64 0, .string ⟨#[]⟩, .int .i64 0] 36)
  have hs1 : (w.alloc (.cells #[.int .i64 3, .int .i64 h, .string ⟨#[]⟩, .int .i64 0] 36)).heap.size = w.heap.size + 1 := Array.size_push ..
  rw [hs1] at hb
  have HB := Lib.hid hb
  have HC := Lib.hid hc2
  have kb := alloc_block w (.cells #[.int .i64 3, .int .i64 h, .string ⟨#[]⟩, .int .i64 0] 36)
  have k0 := (Chg.alloc (fun _ => False) (w.alloc (.cells #[.int .i64 3, .int .i64 h, .string ⟨#[]⟩, .int .i64 0] 36)) (.cells #[.int .i64 0, .int .i64 0, .string ⟨#[]⟩, .int .i64 0] 36)).cell (cell_of_block (i := 0) kb rfl)
  have k1 := (Chg.alloc (fun _ => False) (w.alloc (.cells #[.int .i64 3, .int .i64 h, .string ⟨#[]⟩, .int .i64 0] 36)) (.cells #[.int .i64 0, .int .i64 0, .string ⟨#[]⟩, .int .i64 0] 36)).cell (cell_of_block (i := 1) kb rfl)
  simp only [List.getElem_toArray, List.getElem_cons_zero, List.getElem_cons_succ] at k0 k1
  have HK0 := Lib.hid k0
  have HK1 := Lib.hid k1
  clear hb hc2 hs1 kb k0 k1
  go_enter Tryd.func37, Tryd.ntmps37
  go_upto_region 1 with fail
  generalize ((w.alloc (.cells #[.int .i64 3, .int .i64 h, .string ⟨#[]⟩, .int .i64 0] 36)).alloc (.cells #[.int .i64 0, .int .i64 0, .string ⟨#[]⟩, .int .i64 0] 36)) = w3 at *
  generalize hb2e : w.heap.size + 1 = b2 at *
  have HB2 := Lib.hid hb2e
  have k0 := HK0.out
  have k1 := HK1.out
  clear hb2e
  go_wp2_with fail
  refine (vofA h _).mono ?_
  rintro e wf ⟨rfl, hcf⟩
  have hb4 := hcf.keep HB.out (fun x => x)
  obtain ⟨z0, q0, z1, q1, z2, q2, z3, q3, hbf, hcs⟩ := store4 hb4 (.int .i64 3) (.int .i64 h) (.string ⟨#[]⟩) (.int .i64 0)
  go_wp2_with fail
  generalize ((((wf.setCell ⟨b2, 0, none⟩ (.int .i64 3)).setCell ⟨b2, 1, none⟩ (.int .i64 h)).setCell ⟨b2, 2, none⟩ (.string ⟨#[]⟩)).setCell ⟨b2, 3, none⟩ (.int .i64 0)) = wz at *
  refine bodyPost_ret (results_cell_row rfl _ _ b2 _ _ _ _ (by rfl) hbf Tryd.underlying36 rfl (by kernel_rfl)) rfl ?_
  exact ⟨rfl, (HC.out.trans' hcf).trans hcs (fun _ _ x => x) (fun k hk e => by have := HB2.out; omega)⟩
set_option maxHeartbeats 6400000 in
set_option maxRecDepth 100000 in
theorem own_len (w : World) (b : Nat) (hp : Hp) (F : List Nat) (h : Int) (i : Nat) (H : Here hpR w b 0 hp F) (hi : -9223372036854775808 ≤ h ∧ h ≤ 9223372036854775807) (hs : slotOf hp h = some i) (hl : i < hp.slots.length) (hk : hp.slots[i].obj.kind = 1) :
    Calls Tryd.prog 23 #[.pointer (some ⟨b, 0, none⟩), .int .i64 h, .string ⟨#[108, 101, 110, 103, 116, 104]⟩] w fun e w' => e = .returned (.tuple #[.agg #[.int .i64 3, .int .i64 hp.slots[i].obj.elems.length, .string ⟨#[]⟩, .int .i64 0], .bool true]) ∧ Chg (fun _ => False) w w' := by
  have hca := Chg.alloc (fun _ => False) w (.cells #[.int .i64 0, .int .i64 0, .string ⟨#[]⟩, .int .i64 0] 36)
  have kb := alloc_block w (.cells #[.int .i64 0, .int .i64 0, .string ⟨#[]⟩, .int .i64 0] 36)
  have HKB := Lib.hid kb
  obtain ⟨gh, oh, kh, c2, G, HOBJ0, hGF, hput⟩ := hpPut H hl
  obtain ⟨vp, ve, vd, vs, HOC⟩ := objOpen HOBJ0
  obtain ⟨ae, cape, rfl, -, -⟩ := HOC.re.slice
  have hat := hat_any _ b 0 hp F h _ (H.still hca) (by rw [Nat.zero_add]; exact hca.cell c2) hi
  rw [hs, show objPtr (.slice (some ⟨gh, oh, none⟩) hp.slots.length kh) (some i) = some ⟨gh, oh + i * 11 + 1, none⟩ from rfl] at hat
  have HAT := Lib.hid hat
  have HRE := Lib.hid HOC.re
  have k0 := HOC.c0
  rw [hk] at k0
  have HC0 := Lib.hid k0
  have HC3 := Lib.hid HOC.c3
  generalize hp.slots[i].obj = x at *
  have HCA := Lib.hid hca
  clear kb hca HOBJ0 hGF hput HOC c2 hi hs H hk hat k0
  go_enter Tryd.func23, Tryd.ntmps23
  go_upto_region 1 with fail
  generalize w.alloc (.cells #[.int .i64 0, .int .i64 0, .string ⟨#[]⟩, .int .i64 0] 36) = w1 at *
  generalize hb6 : w.heap.size = b6 at *
  have HB6 := Lib.hid hb6
  clear hb6
  go_upto_region 4 with (go_at_call 35; refine HAT.out.mono ?_; rintro e wa ⟨rfl, hca⟩)
  have HC1 := Lib.hid (HCA.out.trans' hca)
  have HKB2 := Lib.hid (hca.keep HKB.out (fun x => x))
  have c0 := HC1.out.cell HC0.out
  have c3 := HC1.out.cell HC3.out
  clear hca HAT HKB HCA
  go_wp2_with fail
  refine (vofA x.elems.length _).mono ?_
  rintro e w5 ⟨rfl, hc5⟩
  have HC5 := Lib.hid (HC1.out.trans' hc5)
  have HK5 := Lib.hid (hc5.keep HKB2.out (fun x => x))
  obtain ⟨z0, q0, z1, q1, z2, q2, z3, q3, hbf, hcs⟩ := store4 HK5.out (.int .i64 3) (.int .i64 (x.elems.length : Int)) (.string ⟨#[]⟩) (.int .i64 0)
  go_wp2_with fail
  generalize ((((w5.setCell ⟨b6, 0, none⟩ (.int .i64 3)).setCell ⟨b6, 1, none⟩ (.int .i64 (x.elems.length : Int))).setCell ⟨b6, 2, none⟩ (.string ⟨#[]⟩)).setCell ⟨b6, 3, none⟩ (.int .i64 0)) = wz at *
  refine bodyPost_ret (results_cell_row_tmp rfl _ _ b6 #[.int .i64 3, .int .i64 (x.elems.length : Int), .string ⟨#[]⟩, .int .i64 0] (by rfl) (run_loadVar_row _ b6 36 36 _ _ _ hbf Tryd.underlying36 rfl (by kernel_rfl))) rfl ?_
  exact ⟨rfl, HC5.out.trans hcs (fun _ _ x => x) (fun k hk e => by have := HB6.out; omega)⟩
set_option maxHeartbeats 6400000 in
set_option maxRecDepth 100000 in
theorem own_elem (w : World) (b : Nat) (hp : Hp) (F : List Nat) (h : Int) (i : Nat) (key : ByteArray) (H : Here hpR w b 0 hp F) (hi : -9223372036854775808 ≤ h ∧ h ≤ 9223372036854775807) (hs : slotOf hp h = some i) (hl : i < hp.slots.length) (hk : hp.slots[i].obj.kind = 1) (hkl : ¬ key.toList = [108, 101, 110, 103, 116, 104]) (hks : key.size ≤ 1000000) (HT : Tabs w) (j : Nat) (hj : j < hp.slots[i].obj.elems.length) (hlp : hp.slots[i].obj.elems.length ≤ 1000000) (hpz : posM key = (j : Int)) :
    Calls Tryd.prog 23 #[.pointer (some ⟨b, 0, none⟩), .int .i64 h, .string key] w fun e w' => e = .returned (.tuple #[.agg #[.int .i64 hp.slots[i].obj.elems[j].kind, .int .i64 hp.slots[i].obj.elems[j].int, .string hp.slots[i].obj.elems[j].str, .int .i64 hp.slots[i].obj.elems[j].ref], .bool true]) ∧ Chg (fun _ => False) w w' := by
  have hca := Chg.alloc (fun _ => False) w (.cells #[.int .i64 0, .int .i64 0, .string ⟨#[]⟩, .int .i64 0] 36)
  have kb := alloc_block w (.cells #[.int .i64 0, .int .i64 0, .string ⟨#[]⟩, .int .i64 0] 36)
  have HKB := Lib.hid kb
  obtain ⟨gh, oh, kh, c2, G, HOBJ0, hGF, hput⟩ := hpPut H hl
  obtain ⟨vp, ve, vd, vs, HOC⟩ := objOpen HOBJ0
  obtain ⟨ae, cape, rfl, -, -⟩ := HOC.re.slice
  have hat := hat_any _ b 0 hp F h _ (H.still hca) (by rw [Nat.zero_add]; exact hca.cell c2) hi
  rw [hs, show objPtr (.slice (some ⟨gh, oh, none⟩) hp.slots.length kh) (some i) = some ⟨gh, oh + i * 11 + 1, none⟩ from rfl] at hat
  have HAT := Lib.hid hat
  have HRE := Lib.hid HOC.re
  have k0 := HOC.c0
  rw [hk] at k0
  have HC0 := Lib.hid k0
  have HC3 := Lib.hid HOC.c3
  generalize hp.slots[i].obj = x at *
  have HCA := Lib.hid hca
  clear kb hca HOBJ0 hGF hput HOC c2 hi hs H hk hat k0
  have HPS := Lib.hid (fun W (hc : Chg (fun _ => False) w W) => position_any key W hks (HT.still hc))
  have s1 : (key.toList == [108, 101, 110, 103, 116, 104]) = false := beq_false_of_ne hkl
  clear HT hks
  rw [hpz] at HPS
  clear hpz
  go_enter Tryd.func23, Tryd.ntmps23
  go_upto_region 1 with fail
  generalize w.alloc (.cells #[.int .i64 0, .int .i64 0, .string ⟨#[]⟩, .int .i64 0] 36) = w1 at *
  generalize hb6 : w.heap.size = b6 at *
  have HB6 := Lib.hid hb6
  clear hb6
  go_upto_region 4 with (go_at_call 35; refine HAT.out.mono ?_; rintro e wa ⟨rfl, hca⟩)
  have HC1 := Lib.hid (HCA.out.trans' hca)
  have HKB2 := Lib.hid (hca.keep HKB.out (fun x => x))
  have c0 := HC1.out.cell HC0.out
  have c3 := HC1.out.cell HC3.out
  clear hca HAT HKB HCA
  go_upto_region 8 with (go_at_call 21; refine (HPS.out _ HC1.out).mono ?_; rintro e w5 ⟨rfl, hc5⟩)
  have HC5 := Lib.hid (HC1.out.trans' hc5)
  have HK5 := Lib.hid (hc5.keep HKB2.out (fun x => x))
  have c3 := HC5.out.cell HC3.out
  clear hc5 HPS
  have hr2 := HRE.out.chg HC5.out (fun _ _ x => x)
  obtain ⟨gp, opp, cp, hve, -, -⟩ := hr2.addr (by omega)
  cases hve
  have hcells : ∀ t u, x.elems[j].cells[t]? = some u → t < 4 → w5.cell? ⟨gp, opp + j * 4 + t, none⟩ = some u := fun t u hu ht => by
    rw [Nat.add_assoc]
    exact hr2.cellAt (j * 4 + t) u (by rw [flat_get _ 4 Val.len x.elems j t hj ht]; exact hu)
  have p1 : w5.cell? ⟨gp, opp + j * 4, none⟩ = some (.int .i64 x.elems[j].kind) := hcells 0 _ rfl (by omega)
  have p2 := hcells 1 _ rfl (by omega)
  have p3 := hcells 2 _ rfl (by omega)
  have p4 := hcells 3 _ rfl (by omega)
  have j0 : (0 : Int) ≤ (j : Int) := by omega
  have j1 : (j : Int) < (x.elems.length : Int) := by omega
  obtain ⟨z0, q0, z1, q1, z2, q2, z3, q3, hbf, hcs⟩ := store4 HK5.out (.int .i64 x.elems[j].kind) (.int .i64 x.elems[j].int) (.string x.elems[j].str) (.int .i64 x.elems[j].ref)
  clear hcells hr2
  go_wp2_with fail
  generalize ((((w5.setCell ⟨b6, 0, none⟩ (.int .i64 x.elems[j].kind)).setCell ⟨b6, 1, none⟩ (.int .i64 x.elems[j].int)).setCell ⟨b6, 2, none⟩ (.string x.elems[j].str)).setCell ⟨b6, 3, none⟩ (.int .i64 x.elems[j].ref)) = wz at *
  refine bodyPost_ret (results_cell_row_tmp rfl _ _ b6 #[.int .i64 x.elems[j].kind, .int .i64 x.elems[j].int, .string x.elems[j].str, .int .i64 x.elems[j].ref] (by rfl) (run_loadVar_row _ b6 36 36 _ _ _ hbf Tryd.underlying36 rfl (by kernel_rfl))) rfl ?_
  exact ⟨rfl, HC5.out.trans hcs (fun _ _ x => x) (fun k hk e => by have := HB6.out; omega)⟩
set_option maxHeartbeats 6400000 in
set_option maxRecDepth 100000 in
theorem own_beyond (w : World) (b : Nat) (hp : Hp) (F : List Nat) (h : Int) (i : Nat) (key : ByteArray) (H : Here hpR w b 0 hp F) (hi : -9223372036854775808 ≤ h ∧ h ≤ 9223372036854775807) (hs : slotOf hp h = some i) (hl : i < hp.slots.length) (hk : hp.slots[i].obj.kind = 1) (hkl : ¬ key.toList = [108, 101, 110, 103, 116, 104]) (hks : key.size ≤ 1000000) (HT : Tabs w) (j : Nat) (hj : hp.slots[i].obj.elems.length ≤ j) (hlp : hp.slots[i].obj.elems.length ≤ 1000000) (hpz : posM key = (j : Int)) :
    Calls Tryd.prog 23 #[.pointer (some ⟨b, 0, none⟩), .int .i64 h, .string key] w fun e w' => e = .returned (.tuple #[.agg #[.int .i64 0, .int .i64 0, .string ⟨#[]⟩, .int .i64 0], .bool false]) ∧ Chg (fun _ => False) w w' := by
  have hca := Chg.alloc (fun _ => False) w (.cells #[.int .i64 0, .int .i64 0, .string ⟨#[]⟩, .int .i64 0] 36)
  have kb := alloc_block w (.cells #[.int .i64 0, .int .i64 0, .string ⟨#[]⟩, .int .i64 0] 36)
  have HKB := Lib.hid kb
  obtain ⟨gh, oh, kh, c2, G, HOBJ0, hGF, hput⟩ := hpPut H hl
  obtain ⟨vp, ve, vd, vs, HOC⟩ := objOpen HOBJ0
  obtain ⟨ae, cape, rfl, -, -⟩ := HOC.re.slice
  have hat := hat_any _ b 0 hp F h _ (H.still hca) (by rw [Nat.zero_add]; exact hca.cell c2) hi
  rw [hs, show objPtr (.slice (some ⟨gh, oh, none⟩) hp.slots.length kh) (some i) = some ⟨gh, oh + i * 11 + 1, none⟩ from rfl] at hat
  have HAT := Lib.hid hat
  have HRE := Lib.hid HOC.re
  have k0 := HOC.c0
  rw [hk] at k0
  have HC0 := Lib.hid k0
  have HC3 := Lib.hid HOC.c3
  generalize hp.slots[i].obj = x at *
  have HCA := Lib.hid hca
  clear kb hca HOBJ0 hGF hput HOC c2 hi hs H hk hat k0
  have HPS := Lib.hid (fun W (hc : Chg (fun _ => False) w W) => position_any key W hks (HT.still hc))
  have s1 : (key.toList == [108, 101, 110, 103, 116, 104]) = false := beq_false_of_ne hkl
  clear HT hks
  rw [hpz] at HPS
  clear hpz
  go_enter Tryd.func23, Tryd.ntmps23
  go_upto_region 1 with fail
  generalize w.alloc (.cells #[.int .i64 0, .int .i64 0, .string ⟨#[]⟩, .int .i64 0] 36) = w1 at *
  generalize hb6 : w.heap.size = b6 at *
  have HB6 := Lib.hid hb6
  clear hb6
  go_upto_region 4 with (go_at_call 35; refine HAT.out.mono ?_; rintro e wa ⟨rfl, hca⟩)
  have HC1 := Lib.hid (HCA.out.trans' hca)
  have HKB2 := Lib.hid (hca.keep HKB.out (fun x => x))
  have c0 := HC1.out.cell HC0.out
  have c3 := HC1.out.cell HC3.out
  clear hca HAT HKB HCA
  go_upto_region 8 with (go_at_call 21; refine (HPS.out _ HC1.out).mono ?_; rintro e w5 ⟨rfl, hc5⟩)
  have HC5 := Lib.hid (HC1.out.trans' hc5)
  have HK5 := Lib.hid (hc5.keep HKB2.out (fun x => x))
  have c3 := HC5.out.cell HC3.out
  clear hc5 HPS
  have j0 : (0 : Int) ≤ (j : Int) := by omega
  have j1 : ¬ (j : Int) < (x.elems.length : Int) := by omega
  have hr2 := HRE.out.chg HC5.out (fun _ _ x => x)
  obtain ⟨z0, q0, z1, q1, z2, q2, z3, q3, hbf, hcs⟩ := store4 HK5.out (.int .i64 0) (.int .i64 0) (.string ⟨#[]⟩) (.int .i64 0)
  go_wp2_with fail
  generalize ((((w5.setCell ⟨b6, 0, none⟩ (.int .i64 0)).setCell ⟨b6, 1, none⟩ (.int .i64 0)).setCell ⟨b6, 2, none⟩ (.string ⟨#[]⟩)).setCell ⟨b6, 3, none⟩ (.int .i64 0)) = wz at *
  refine bodyPost_ret (results_cell_row_tmp rfl _ _ b6 #[.int .i64 0, .int .i64 0, .string ⟨#[]⟩, .int .i64 0] (by rfl) (run_loadVar_row _ b6 36 36 _ _ _ hbf Tryd.underlying36 rfl (by kernel_rfl))) rfl ?_
  exact ⟨rfl, HC5.out.trans hcs (fun _ _ x => x) (fun k hk e => by have := HB6.out; omega)⟩
end Go.Proofs.YtjianickjahdnaaDoor
namespace Go.Proofs.YtjianickjahdnaaDoor
open Go.RowKit
attribute [local go_sem] Oper.semAt_some
set_option linter.unusedVariables false
set_option linter.unusedSimpArgs false

theorem Chg.putL {S : Nat → Prop} {a b : World} (h : Chg S a b) (l : Nat) (o : _root_.Go.Obj) (hl : l < a.heap.size → S l) : Chg S a (b.putObj l o) :=
  h.trans (Chg.grown (grownBy_putObj' b l o)) (fun _ _ x => x) (fun i hi e => by cases e; exact hl hi)
/-- The contract of an iterator over a list, with one box of its own that it writes; a round may leave. -/
def SeqFind {α : Type} (F : Fence) (n : Nat) (P : Program) (g : Nat) (lb : Array Value) (encs : α → Array Value) (xs : List α) (bo : Nat) (w : World) : Prop :=
  ∀ (l : Nat) (J Jx : List α → World → Prop) (W : World), Chg (fun _ => False) w W →
    (∀ pre A B, J pre A → Chg (fun k => k = bo) A B → J pre B) →
    (∀ pre x W1, J pre W1 → (pre ++ [x]) <+: xs → Chg (fun k => k = bo) w W1 → YieldAt F (n - 1) P l (encs x) W1 fun e W' =>
      (e = .returned (.bool true) ∧ J (pre ++ [x]) W' ∧ Chg (fun k => w.heap.size ≤ k) W1 W') ∨ (e = .returned (.bool false) ∧ Jx (pre ++ [x]) W')) →
    J [] W →
    CallsIn F n P g (#[.func (.yield l) #[] #[]] ++ lb) W fun e W' => (∃ v, e = .returned v) ∧ (J xs W' ∨ ∃ pre, Jx pre W')

theorem wpIn_rangeFunc_find {F : Fence} {n : Nat} {P : Program} {α : Type} {g : Operand} {ps : Array Tmp} {assign body : Code} {Q : Exit → Act → World → Prop} {a : Act} {w : World}
    (hro : F.round = none) (h1 : 1 ≤ n) {gf : Nat} {lb : Array Value} (hg : a.eval g = .func (.func gf) #[] lb) (hFg : F.fn gf) (eg : ∀ args w, (callFunc gf args).run P w = .ok (.enter gf args) w)
    {encs : α → Array Value} {xs : List α} {bo : Nat} (hbo : bo < w.heap.size) (hseq : SeqFind F (n - 1) P gf lb encs xs bo w) (hps : ∀ x, (encs x).size = ps.size)
    (Ip : List α → Prop) (R : List α → World → Prop) (T : Nat → Prop) (hT : ∀ k, T k → k < w.heap.size)
    (hR : ∀ pre A B, R pre A → Chg (fun k => w.heap.size ≤ k) A B → R pre B)
    (h0 : Ip []) (a₁ : α → Act)
    (hassign : ∀ (l : Nat) (x : α) (W : World) (K : Act → World → Prop), K (a₁ x) W →
      assign.wpIn (F.inRound l) (n - 1 - 1) P (Exit.then K (fun _ _ _ => False)) { tmps := (ps.zip (encs x)).foldl (fun t (p, v) => t.setIfInBounds p v) a.tmps, defers := [] } W)
    (hbody : ∀ (l : Nat) (pre : List α) (x : α) (W : World), Ip pre → (pre ++ [x]) <+: xs → Chg (fun k => k = bo) w W →
      body.wpIn (F.inRound l) (n - 1 - 1) P (fun e _ W' => (e = .normal ∧ Ip (pre ++ [x]) ∧ Chg (fun _ => False) W W') ∨ (e = .ret ∧ R (pre ++ [x]) W' ∧ Chg T W W')) (a₁ x) W)
    (hdone : ∀ (D : Nat) (W : World), w.heap.size ≤ D → Ip xs → Chg (fun k => k = bo) w W → W.heap[D]? = some (.deferred (some [])) → Q .normal { a with defers := { target := .collected D, args := #[] } :: a.defers } W)
    (hstop : ∀ (D : Nat) (pre : List α) (W : World), w.heap.size ≤ D → R pre W → Chg (fun k => T k ∨ k = bo) w W → W.heap[D]? = some (.deferred (some [])) → Code.ret.wpIn F n P Q { a with defers := { target := .collected D, args := #[] } :: a.defers } W) :
    (Code.rangeFunc g ps assign body).wpIn F n P Q a w := by
  refine wpIn_rangeFunc ?_
  intro fn hfn
  rw [hro]
  obtain ⟨rec, hrec⟩ : ∃ rec : LoopState → Option Code → Loop, rec = fun st pe => { state := st, pending := pe, fn, tmps := a.tmps, params := ps, assign, body, defers := w.heap.size } := ⟨_, rfl⟩
  obtain ⟨W1, hW1⟩ : ∃ W1, (w.alloc (.deferred (some []))).alloc (.loop (rec .ready none)) = W1 := ⟨_, rfl⟩
  have hc1 : Chg (fun _ => False) w W1 := by rw [← hW1]; exact (Chg.alloc _ _ _).allocR _
  have hL1 : W1.heap[w.heap.size + 1]? = some (.loop (rec .ready none)) := by
    rw [← hW1]; have := World.alloc_heap_new (w.alloc (.deferred (some []))) (.loop (rec .ready none)); rwa [World.size_alloc] at this
  have hK1 : W1.heap[w.heap.size]? = some (.deferred (some [])) := by
    rw [← hW1]; exact (Below.heap_alloc _ _ _ (by simp)).trans (World.alloc_heap_new w _)
  refine ⟨w.heap.size + 1, [{ target := .collected w.heap.size, args := #[] }], W1, { target := .fn (.func gf) lb, args := #[.func (.yield (w.heap.size + 1)) #[] #[]] }, W1, gf,
    #[.func (.yield (w.heap.size + 1)) #[] #[]] ++ lb, W1, ?_, ?_, ?_, ?_, fun _ => h1, ?_⟩
  · rw [← hW1, hrec]; exact run_enterLoop_outer _ _ _ _ _
  · simp only [resolve, hg]
    simp [go_sem]
  · intro f' hf'; simp [Target.leads] at hf'; subst hf'; exact hFg
  · simp [invoke, go_sem, eg]
  · refine (hseq (w.heap.size + 1)
      (fun pre W => Ip pre ∧ Chg (fun k => k = bo) w W ∧ W.heap[w.heap.size + 1]? = some (.loop (rec .ready none)) ∧ W.heap[w.heap.size]? = some (.deferred (some [])))
      (fun pre W => R pre W ∧ Chg (fun k => T k ∨ k = bo) w W ∧ W.heap[w.heap.size + 1]? = some (.loop (rec .done (some .ret))) ∧ W.heap[w.heap.size]? = some (.deferred (some [])))
      W1 hc1 (fun pre A B hj hc => ⟨hj.1, hj.2.1.trans' hc, hc.keep hj.2.2.1 (by omega), hc.keep hj.2.2.2 (by omega)⟩) ?_ ⟨h0, hc1.mono (fun _ _ x => x.elim), hL1, hK1⟩).mono ?_
    · rintro pre x W ⟨hi, hcw, hl, hk⟩ hpre -
      have hlt : w.heap.size + 1 < W.heap.size := (Array.getElem?_eq_some_iff.1 hl).1
      have hy := run_yield (P := P) (args := encs x) hl (by rw [hrec]; exact hps x)
      rw [hrec] at hy
      refine ⟨fn, _, assign, body, hy, roundIn_of_wpIn hfn (hassign _ x W _ ⟨_, run_beginRound hl (by rw [hrec]), ?_⟩)⟩
      have hl2 : (W.putObj (w.heap.size + 1) (.loop { rec .ready none with state := .busy })).heap[w.heap.size + 1]? = some (.loop { rec .ready none with state := .busy }) := World.putObj_heap_same hlt
      have hk2 : (W.putObj (w.heap.size + 1) (.loop { rec .ready none with state := .busy })).heap[w.heap.size]? = some (.deferred (some [])) := (World.putObj_heap_other (by omega)).trans hk
      have hcb : Chg (fun k => w.heap.size ≤ k) W (W.putObj (w.heap.size + 1) (.loop { rec .ready none with state := .busy })) := (Chg.refl _ W).putL _ _ (fun _ => by omega)
      have hcb2 : Chg (fun k => k = bo) w (W.putObj (w.heap.size + 1) (.loop { rec .ready none with state := .busy })) := hcw.putL _ _ (fun h => by omega)
      refine wpIn_mono (hbody _ pre x _ hi hpre hcb2) ?_
      rintro e a3 W3 (⟨rfl, hi3, hc3⟩ | ⟨rfl, hr3, hc3⟩)
      · have hl3 := hc3.keep hl2 (fun x => x)
        have hk3 := hc3.keep hk2 (fun x => x)
        have hr := run_endRound (P := P) none hl3
        have hlt3 := (Array.getElem?_eq_some_iff.1 hl3).1
        rw [hrec] at hr
        refine ⟨_, _, hr, .inl ⟨rfl, ⟨hi3, (hcb2.trans hc3 (fun _ _ x => x) (fun _ _ x => x.elim)).putL _ _ (fun h => by omega), ?_, (World.putObj_heap_other (by omega)).trans hk3⟩, (hcb.trans hc3 (fun _ _ x => x) (fun _ _ x => x.elim)).putL _ _ (fun _ => by omega)⟩⟩
        rw [hrec]; exact World.putObj_heap_same hlt3
      · have hl3 := hc3.keep hl2 (fun x => by have := hT _ x; omega)
        have hk3 := hc3.keep hk2 (fun x => by have := hT _ x; omega)
        have hr := run_endRound (P := P) (some .ret) hl3
        have hlt3 := (Array.getElem?_eq_some_iff.1 hl3).1
        rw [hrec] at hr
        refine ⟨_, _, hr, .inr ⟨rfl, hR _ _ _ hr3 ((Chg.refl _ W3).putL _ _ (fun _ => by omega)), (hcb2.trans hc3 (fun _ _ x => .inr x) (fun _ _ x => .inl x)).putL _ _ (fun h => by omega), ?_, (World.putObj_heap_other (by omega)).trans hk3⟩⟩
        rw [hrec]; exact World.putObj_heap_same hlt3
    · rintro e W2 ⟨⟨v, rfl⟩, (⟨hi, hc, hl, hk⟩ | ⟨pre, hi, hc, hl, hk⟩)⟩
      · exact ⟨none, _, by have := run_endLoop (P := P) hl (by rw [hrec]; simp); rw [hrec] at this; exact this, hdone _ _ (Nat.le_refl _) hi (hc.putL _ _ (fun h => by omega)) ((World.putObj_heap_other (by omega)).trans hk)⟩
      · exact ⟨some .ret, _, by have := run_endLoop (P := P) hl (by rw [hrec]; simp); rw [hrec] at this; exact this, hstop _ pre _ (Nat.le_refl _) (hR _ _ _ hi ((Chg.refl _ W2).putL _ _ (fun _ => by omega))) (hc.putL _ _ (fun h => by omega)) ((World.putObj_heap_other (by omega)).trans hk)⟩
end Go.Proofs.YtjianickjahdnaaDoor
namespace Go.Proofs.YtjianickjahdnaaDoor
open Go.RowKit
set_option linter.unusedVariables false
set_option linter.unusedSimpArgs false

/-- The handles of a prototype chain. -/
def chainM (hp : Hp) : Nat → Int → List Int
  | 0, _ => []
  | n + 1, o => match slotOf hp o with
    | none => []
    | some i => o :: chainM hp n (hp.slots.getD i noSlt).obj.proto
theorem chainM_none {hp : Hp} {o : Int} (h : slotOf hp o = none) : ∀ n, chainM hp n o = []
  | 0 => rfl
  | n + 1 => by unfold chainM; rw [h]
theorem chainM_some {hp : Hp} {o : Int} {i : Nat} (h : slotOf hp o = some i) (hi : i < hp.slots.length) (n : Nat) : chainM hp (n + 1) o = o :: chainM hp n hp.slots[i].obj.proto := by
  conv => lhs; unfold chainM
  rw [h]
  simp only
  rw [List.getD_eq_getElem?_getD, List.getElem?_eq_getElem hi]
  rfl
def InJ (h : Int) : Prop := -9223372036854775808 ≤ h ∧ h ≤ 9223372036854775807

set_option maxHeartbeats 800000 in
set_option maxRecDepth 100000 in
theorem chain_any (w : World) (p : Option Addr) (o : Int) :
    Calls Tryd.prog 36 #[.pointer p, .int .i64 o] w fun e w' => e = .returned (.func (.func 52) #[] #[.pointer (some ⟨w.heap.size, 0, none⟩), .pointer (some ⟨w.heap.size + 1, 0, none⟩)]) ∧ w' = (w.alloc (.cells #[.pointer p] 73)).alloc (.cells #[.int .i64 o] 3) := by
  go_enter Tryd.func36, Tryd.ntmps36
  go_wp2_with fail
  go_ret
  exact ⟨rfl, rfl⟩

set_option maxHeartbeats 6400000 in
set_option maxRecDepth 100000 in
theorem chain1_find (nf : Nat) (w : World) (bh : Nat) (hp : Hp) (F : List Nat) (b1 bo T1 : Nat) (o : Int) (H : Here hpR w bh 0 hp F) (hb1 : w.heap[b1]? = some (.cells #[.pointer (some ⟨bh, 0, none⟩)] T1 (0, 0)))
    (hb2 : w.heap[bo]? = some (.cells #[.int .i64 o] 3 (0, 0))) (h12 : b1 ≠ bo) (hbF : bo ∉ F) (hbb : bh ≠ bo) (ho : InJ o) (hpr : ∀ s (hs : s < hp.slots.length), InJ hp.slots[s].obj.proto) :
    SeqFind Fence.wide nf Tryd.prog 52 #[.pointer (some ⟨b1, 0, none⟩), .pointer (some ⟨bo, 0, none⟩)] (fun h : Int => #[.int .i64 h]) (chainM hp 100001 o) bo w := by
  intro l J Jx W0 hc0 hJ hY hJ0
  refine callsIn_wide.2 ?_
  have HH := Lib.hid H
  have HB1 := Lib.hid hb1
  have HB2 := Lib.hid (hc0.keep hb2 (fun x => x))
  have HNE := Lib.hid (show bo ∉ F ∧ bh ≠ bo ∧ b1 ≠ bo from ⟨hbF, hbb, h12⟩)
  have HPR := Lib.hid hpr
  have HYY := Lib.hid hY
  have HJJ := Lib.hid hJ
  have HJ0 := Lib.hid hJ0
  have HO := Lib.hid ho
  have HLB := Lib.hid (lt_of_block hb2)
  have HC0 : Hid (Chg (fun k => k = bo) w W0) := Lib.hid (hc0.mono (fun _ _ x => x.elim))
  obtain ⟨xs, hxs⟩ : ∃ xs, chainM hp 100001 o = xs := ⟨_, rfl⟩
  rw [hxs] at HYY
  rw [hxs]
  have HXS := Lib.hid hxs
  clear H hb1 hb2 h12 hbF hbb ho hpr hY hJ hJ0 hc0 hxs
  show Calls Tryd.prog 52 #[.func (.yield l) #[] #[], .pointer (some ⟨b1, 0, none⟩), .pointer (some ⟨bo, 0, none⟩)] W0 _
  go_enter Tryd.func52, Tryd.ntmps52
  go_wp2_with fail
  go_loopw [4, 5] (fun _ u5 wr => ∃ (i : Nat) (pre : List Int) (cur : Int), i ≤ 100001 ∧ u5 = .int .i64 i ∧ Hid (InJ cur) ∧ Hid (pre ++ chainM hp (100001 - i) cur = xs) ∧ Hid (J pre wr) ∧ Hid (Chg (fun k => k = bo) w wr) ∧ Hid (wr.heap[bo]? = some (.cells #[.int .i64 cur] 3 (0, 0)))) (fun _ u5 _ => 100001 - (intOf u5).toNat)
  case atStart => exact ⟨0, [], o, by omega, rfl, HO, HXS, HJ0, HC0, HB2⟩
  case round =>
    obtain ⟨i, pre, cur, hi, rfl, HCI, HPX, HJP, HCW, HBO⟩ := hrel
    clear HJ0 HC0 HB2 HXS
    by_cases hlt : i < 100001
    · have i0 : (0 : Int) ≤ (i : Int) := by omega
      have i1 : (i : Int) < 100001 := by omega
      have w64 : IntKind.i64.wrap ((i : Int) + 1) = ((i + 1 : Nat) : Int) := IntWalk.i64_in _ (by omega)
      have HLT := Lib.hid hlt
      have HR : Hid (Here hpR wr bh 0 hp F) := Lib.hid (HH.out.chg HCW.out HNE.out.2.1 (fun k hk e => HNE.out.1 (e ▸ hk)))
      have hb1r := HCW.out.keep HB1.out HNE.out.2.2
      have k1 := cell_of_block (i := 0) hb1r rfl
      have k2 := cell_of_block (i := 0) HBO.out rfl
      simp only [List.getElem_toArray, List.getElem_cons_zero] at k1 k2
      obtain ⟨-, -, ⟨as_, cs_, c2⟩, -⟩ := hpCells HR.out
      obtain ⟨q, hq⟩ : ∃ q, 100001 - i = q + 1 := ⟨100000 - i, by omega⟩
      rw [hq] at HPX
      have HQ := Lib.hid hq
      clear hi hlt hb1r hq
      cases hs : slotOf hp cur with
      | none =>
        have hat := hat_any wr bh 0 hp F cur _ HR.out c2 HCI.out
        rw [hs, objPtr_none] at hat
        have HAT := Lib.hid hat
        rw [chainM_none hs, List.append_nil] at HPX
        clear hat hs c2
        go_wp2_with (go_at_call 35; refine HAT.out.mono ?_; rintro e wa ⟨rfl, hca⟩)
        refine bodyPost_ret (results_none rfl _ _ _) rfl ?_
        have hj := HJJ.out _ _ _ HJP.out (hca.mono (fun _ _ x => x.elim))
        rw [HPX.out] at hj
        exact ⟨⟨_, rfl⟩, .inl hj⟩
      | some s =>
        obtain ⟨hsl, -, -⟩ := slotOf_lt hs
        rw [chainM_some hs hsl] at HPX
        obtain ⟨gh, oh, kh, chw, G, HOBJ0, -, -⟩ := hpPut HH.out hsl
        have ch := HCW.out.cellS chw HNE.out.2.1
        have hat := hat_any wr bh 0 hp F cur _ HR.out (by rw [Nat.zero_add]; exact ch) HCI.out
        rw [hs, show objPtr (.slice (some ⟨gh, oh, none⟩) hp.slots.length kh) (some s) = some ⟨gh, oh + s * 11 + 1, none⟩ from rfl] at hat
        have HAT := Lib.hid hat
        have HCH := Lib.hid chw
        have HIN := Lib.hid (HPR.out s hsl)
        have HSL := Lib.hid hsl
        clear hat hs ch chw HOBJ0 c2
        go_upto_region 3 with (go_at_call 35; refine HAT.out.mono ?_; rintro e wa ⟨rfl, hca⟩)
        have HJA := Lib.hid (HJJ.out _ _ _ HJP.out (hca.mono (fun _ _ x => x.elim)))
        have HCA := Lib.hid (HCW.out.trans hca (fun _ _ x => x) (fun _ _ x => x.elim))
        have HBA := Lib.hid (hca.keep HBO.out (fun x => x))
        have k1 := hca.cell k1
        have k2 := hca.cell k2
        clear hca HAT HJP HCW HBO HR
        obtain ⟨fn, tmps, assign, body, hy, hR⟩ := HYY.out pre cur wa HJA.out ⟨chainM hp q hp.slots[s].obj.proto, by rw [List.append_assoc]; exact HPX.out⟩ HCA.out
        refine (wpIn_wide (n := nf) (P := Tryd.prog)).1 ?_
        gi_wp2
        refine ⟨fun h => (by cases h), ?_⟩
        refine hR.mono ?_
        rintro e Wr (⟨rfl, hJr, hcr⟩ | ⟨rfl, hxr⟩)
        · have HJR := Lib.hid hJr
          have HCR := Lib.hid (HCA.out.trans hcr (fun _ _ x => x) (fun i hi x => by omega))
          have hlbo := HLB.out
          have HBR := Lib.hid (hcr.keep HBA.out (by omega))
          have HRR : Hid (Here hpR Wr bh 0 hp F) := Lib.hid (HH.out.chg HCR.out HNE.out.2.1 (fun k hk e => HNE.out.1 (e ▸ hk)))
          obtain ⟨gh', oh', kh', ch', G, HOBJ, -, -⟩ := hpPut HRR.out HSL.out
          rw [HCR.out.cellS HCH.out HNE.out.2.1] at ch'
          cases ch'
          obtain ⟨vp, ve, vd, vs, HOC⟩ := objOpen HOBJ
          have p1 := HOC.c1
          have kb := cell_of_block (i := 0) HBR.out rfl
          have fb := frozen_of_block (i := 0) HBR.out
          simp only [List.getElem_toArray, List.getElem_cons_zero] at kb
          have hbs := setCell_block (i := 0) (.int .i64 hp.slots[s].obj.proto) HBR.out
          have HBS := Lib.hid hbs
          clear hJr hcr hlbo HOBJ HOC k1 k2 hbs
          gi_wp2
          go_wp2_with fail
          go_roundw
          case rel => exact ⟨i + 1, pre ++ [cur], hp.slots[s].obj.proto, by have := HLT.out; omega, rfl, HIN, Lib.hid (by rw [show 100001 - (i + 1) = q by have := HQ.out; omega, List.append_assoc]; exact HPX.out), Lib.hid (HJJ.out _ _ _ HJR.out (Chg.setCell Wr ⟨bo, 0, none⟩ _)), Lib.hid (HCR.out.setCellR _ _ (fun _ => rfl)), HBS⟩
          case measure => have := HLT.out; simp [intOf, w64]; omega
        · gi_wp2
          go_wp2_with fail
          refine bodyPost_ret (results_none rfl _ _ _) rfl ?_
          exact ⟨⟨_, rfl⟩, .inr ⟨_, hxr⟩⟩
    · have hie : i = 100001 := by omega
      subst hie
      rw [show 100001 - 100001 = 0 from rfl, show chainM hp 0 cur = [] from rfl, List.append_nil] at HPX
      clear hlt hi
      go_wp2_with fail
      go_end0
      have hj := HJP.out
      rw [HPX.out] at hj
      exact ⟨⟨_, rfl⟩, .inl hj⟩
end Go.Proofs.YtjianickjahdnaaDoor
namespace Go.Proofs.YtjianickjahdnaaDoor
open Go.RowKit
set_option linter.unusedVariables false
set_option linter.unusedSimpArgs false

theorem results_cell1 {fn : Func} {p : Tmp} {ty : TypeId} {P : Program} (h : fn.results = #[.cell p ty]) (tmps : Array Value) (w : World) (g : Nat) (v : Value) (hp : tmps.getD p undef = .pointer (some ⟨g, 0, none⟩)) (hl : (loadVar ty ⟨g, 0, none⟩).run P w = .ok v w) :
    (results fn tmps).run P w = .ok v w := by
  have hp' : tmps[p]?.getD undef = .pointer (some ⟨g, 0, none⟩) := by simpa using hp
  simp [results, h, hp', asAddr, hl]
theorem run_loadVar1 (w : World) (g : Nat) (v : Value) (T : Nat) (hc : w.cell? ⟨g, 0, none⟩ = some v) : (loadVar 4 ⟨g, 0, none⟩).run Tryd.prog w = .ok v w := by
  have hu := Tryd.underlying4
  simp [loadVar, isAgg, go_sem, hu, hc]
theorem bodyM_eq {fn : Func} {R : Ending → World → Prop} {a : Act} {w : World} {n : Nat} {P : Program} : bodyPostM Fence.wide n P fn R .ret a w = LeavesInM Fence.wide n P fn a.tmps R a.defers .returning w := rfl
def withinM (hp : Hp) (o proto : Int) : Bool := match slotOf hp o with
  | none => false
  | some i => (chainM hp 100001 (hp.slots.getD i noSlt).obj.proto).contains proto

set_option maxHeartbeats 6400000 in
set_option maxRecDepth 100000 in
theorem within_nil (w : World) (bh : Nat) (hp : Hp) (F : List Nat) (o proto : Int) (H : Here hpR w bh 0 hp F) (ho : InJ o) (hs : slotOf hp o = none) :
    Calls Tryd.prog 17 #[.pointer (some ⟨bh, 0, none⟩), .int .i64 o, .int .i64 proto] w fun e w' => e = .returned (.bool false) ∧ Chg (fun _ => False) w w' := by
  obtain ⟨-, -, ⟨as_, cs_, c2⟩, -⟩ := hpCells H
  have HAT := Lib.hid (fun W (hc : Chg (fun _ => False) w W) => hat_any W bh 0 hp F o _ (H.still hc) (hc.cell c2) ho)
  rw [hs, objPtr_none] at HAT
  have hcA := (Chg.alloc (fun _ => False) w (.cells #[.int .i64 proto] 3)).allocR (.cells #[.bool false] 4)
  have HCA := Lib.hid hcA
  have hb6 := alloc_block (w.alloc (.cells #[.int .i64 proto] 3)) (.cells #[.bool false] 4)
  have hs1 : (w.alloc (.cells #[.int .i64 proto] 3)).heap.size = w.heap.size + 1 := Array.size_push ..
  rw [hs1] at hb6
  have HB6 := Lib.hid hb6
  clear hcA hb6 hs1 c2 H ho hs
  go_enter Tryd.func17, Tryd.ntmps17
  go_upto_region 1 with fail
  generalize (w.alloc (.cells #[.int .i64 proto] 3)).alloc (.cells #[.bool false] 4) = w1 at *
  generalize hbe : w.heap.size + 1 = b6 at *
  have HBE := Lib.hid hbe
  clear hbe
  go_upto_region 2 with (go_at_call 35; refine (HAT.out _ HCA.out).mono ?_; rintro e wa ⟨rfl, hca⟩)
  have hba := hca.keep HB6.out (fun x => x)
  have k6 := cell_of_block (i := 0) hba rfl
  have f6 := frozen_of_block (i := 0) hba
  have hst := setCell_block (i := 0) (.bool false) hba
  have k7 := cell_of_block (i := 0) hst rfl
  simp only [List.getElem_toArray, List.getElem_cons_zero] at k6 k7
  go_wp2_with fail
  refine bodyPost_ret (results_cell1 rfl _ _ b6 (.bool false) (by rfl) ?_) rfl ?_
  · exact run_loadVar1 _ _ _ 0 k7
  exact ⟨rfl, (HCA.out.trans' hca).setCellR _ _ (fun h => by have := HBE.out; simp at h; omega)⟩

set_option maxHeartbeats 6400000 in
set_option maxRecDepth 100000 in
theorem within_some (w : World) (bh : Nat) (hp : Hp) (F : List Nat) (o proto : Int) (i : Nat) (H : Here hpR w bh 0 hp F) (ho : InJ o) (hs : slotOf hp o = some i) (hpr : ∀ s (hs : s < hp.slots.length), InJ hp.slots[s].obj.proto) (hsl : i < hp.slots.length) :
    Calls Tryd.prog 17 #[.pointer (some ⟨bh, 0, none⟩), .int .i64 o, .int .i64 proto] w fun e w' => e = .returned (.bool ((chainM hp 100001 hp.slots[i].obj.proto).contains proto)) ∧ Chg (fun _ => False) w w' := by
  refine (callsIn_wide (n := 9)).1 (callsIn_of_wp_marks Tryd.func17 rfl trivial ?_)
  refine (wpIn_wide (n := 9) (P := Tryd.prog)).2 ?_
  obtain ⟨gh, oh, kh, ch, G, HOBJ0, -, -⟩ := hpPut H hsl
  have HAT := Lib.hid (fun W (hc : Chg (fun _ => False) w W) => hat_any W bh 0 hp F o _ (H.still hc) (hc.cell (by rw [Nat.zero_add]; exact ch)) ho)
  rw [hs, show objPtr (.slice (some ⟨gh, oh, none⟩) hp.slots.length kh) (some i) = some ⟨gh, oh + i * 11 + 1, none⟩ from rfl] at HAT
  obtain ⟨vp, ve, vd, vs, HOC⟩ := objOpen HOBJ0
  have HP1 := Lib.hid HOC.c1
  have HIN := Lib.hid (hpr i hsl)
  have HPR := Lib.hid hpr
  generalize hp.slots[i].obj.proto = pr at *
  have HH := Lib.hid H
  have hcA := (Chg.alloc (fun _ => False) w (.cells #[.int .i64 proto] 3)).allocR (.cells #[.bool false] 4)
  have HCA := Lib.hid hcA
  have hb5 := (Chg.alloc (fun _ => False) (w.alloc (.cells #[.int .i64 proto] 3)) (.cells #[.bool false] 4)).keep (alloc_block w (.cells #[.int .i64 proto] 3)) (fun x => x)
  have hb6 := alloc_block (w.alloc (.cells #[.int .i64 proto] 3)) (.cells #[.bool false] 4)
  have hs1 : (w.alloc (.cells #[.int .i64 proto] 3)).heap.size = w.heap.size + 1 := Array.size_push ..
  rw [hs1] at hb6
  have HB6 := Lib.hid hb6
  have HB5 := Lib.hid hb5
  clear hcA hb6 hb5 hs1 ch H ho hs hpr HOBJ0 HOC hsl
  simp only [Tryd.ntmps17, List.size_toArray, List.length_cons, List.length_nil, Nat.reduceAdd, Nat.reduceSub, Array.replicate_succ, Array.replicate_zero, List.push_toArray, List.append_toArray, List.nil_append, List.cons_append]
  go_upto_region 1 with fail
  generalize (w.alloc (.cells #[.int .i64 proto] 3)).alloc (.cells #[.bool false] 4) = w1 at *
  generalize hbe : w.heap.size + 1 = b6 at *
  generalize hbe5 : w.heap.size = b5 at *
  have HBE := Lib.hid hbe
  have HBE5 := Lib.hid hbe5
  clear hbe hbe5
  go_upto_region 2 with (go_at_call 35; refine (HAT.out _ HCA.out).mono ?_; rintro e wa ⟨rfl, hca⟩)
  have HCW := Lib.hid (HCA.out.trans' hca)
  have HBA := Lib.hid (hca.keep HB6.out (fun x => x))
  have HB5A := Lib.hid (hca.keep HB5.out (fun x => x))
  have p1 := HCW.out.cell HP1.out
  have hce := chain_any wa (some ⟨bh, 0, none⟩) pr
  have HCE := Lib.hid hce
  clear hca hce HAT HCA HB6 HB5
  go_wp2_with (go_at_call 36; refine HCE.out.mono ?_; rintro e wc ⟨rfl, rfl⟩)
  have hk1 := (Chg.alloc (fun _ => False) (wa.alloc (.cells #[.pointer (some ⟨bh, 0, none⟩)] 73)) (.cells #[.int .i64 pr] 3)).keep (alloc_block wa (.cells #[.pointer (some ⟨bh, 0, none⟩)] 73)) (fun x => x)
  have hk2 := alloc_block (wa.alloc (.cells #[.pointer (some ⟨bh, 0, none⟩)] 73)) (.cells #[.int .i64 pr] 3)
  have hs2 : (wa.alloc (.cells #[.pointer (some ⟨bh, 0, none⟩)] 73)).heap.size = wa.heap.size + 1 := Array.size_push ..
  rw [hs2] at hk2
  have hcc := (Chg.alloc (fun _ => False) wa (.cells #[.pointer (some ⟨bh, 0, none⟩)] 73)).allocR (.cells #[.int .i64 pr] 3)
  have HCC := Lib.hid (HCW.out.trans' hcc)
  have hk6 := hcc.keep HBA.out (fun x => x)
  have hk5 := hcc.keep HB5A.out (fun x => x)
  have hsz := HCW.out.size
  have hl6 := lt_of_block HBA.out
  generalize (wa.alloc (.cells #[.pointer (some ⟨bh, 0, none⟩)] 73)).alloc (.cells #[.int .i64 pr] 3) = wc at *
  generalize hb1e : wa.heap.size = b1 at *
  have hlt2 := lt_of_block hk2
  have HF := Lib.hid (HH.out.still HCC.out)
  have HK1 := Lib.hid hk1
  have HK2 := Lib.hid hk2
  have HK5 := Lib.hid hk5
  have HK6 := Lib.hid hk6
  have hbne := HBE.out
  have hb5e := HBE5.out
  have hbl := HH.out.lt
  have HN : Hid (b5 ≠ b1 + 1 ∧ b6 ≠ b1 + 1 ∧ b1 + 1 < wc.heap.size ∧ b6 < wc.heap.size ∧ w.heap.size ≤ b6 ∧ w.heap.size ≤ b1 + 1 ∧ bh ≠ b1 + 1 ∧ b1 + 1 ∉ F) := Lib.hid ⟨by omega, by omega, by omega, by omega, by omega, by omega, by have := hbl.1; omega, fun hx => by have := hbl.2 _ hx; omega⟩
  clear hk1 hk2 hs2 hcc hk6 hk5 hsz hl6 hb1e hlt2 hbne hb5e hbl HBA HB5A HCE HCW p1 HP1 HBE HBE5
  refine (wpIn_wide (n := 9) (P := Tryd.prog)).1 (wpIn_rangeFunc_find (F := Fence.wide) (n := 9) rfl (by omega) (gf := 52) (lb := #[.pointer (some ⟨b1, 0, none⟩), .pointer (some ⟨b1 + 1, 0, none⟩)]) rfl trivial (enters_of Tryd.func52 (by kernel_rfl) rfl) (encs := fun h : Int => #[.int .i64 h]) (xs := chainM hp 100001 pr) (bo := b1 + 1) HN.out.2.2.1 ?seq (fun _ => rfl)
    (fun pre => proto ∉ pre) (fun pre W => proto ∈ chainM hp 100001 pr ∧ W.heap[b6]? = some (.cells #[.bool true] 4 (0, 0))) (fun k => k = b6) ?hT ?hR (by simp) (fun y => { tmps := #[.pointer (some ⟨bh, 0, none⟩), .int .i64 o, .int .i64 proto, undef, undef, .pointer (some ⟨b5, 0, none⟩), .pointer (some ⟨b6, 0, none⟩), .pointer (some ⟨gh, oh + i * 11 + 1, none⟩), .int .i64 y, .pointer (some ⟨bh, 0, none⟩), .int .i64 o, .pointer (some ⟨gh, oh + i * 11 + 1, none⟩), .pointer (some ⟨gh, oh + i * 11 + 1, none⟩), .bool false, .pointer (some ⟨bh, 0, none⟩), .pointer (some ⟨gh, oh + i * 11 + 1, none⟩), .pointer (some ⟨gh, oh + i * 11 + 1, none⟩), .pointer (some ⟨gh, oh + i * 11 + 1 + 1, none⟩), .int .i64 pr, .func (.func 52) #[] #[.pointer (some ⟨b1, 0, none⟩), .pointer (some ⟨b1 + 1, 0, none⟩)], .int .i64 y, undef, undef, undef], defers := [] }) ?assign ?body ?done ?stop)
  case seq => exact chain1_find _ wc bh hp F b1 (b1 + 1) _ pr HF.out HK1.out HK2.out (by omega) HN.out.2.2.2.2.2.2.2 HN.out.2.2.2.2.2.2.1 HIN.out HPR.out
  case hT => rintro k rfl; exact HN.out.2.2.2.1
  case hR => rintro pre A B ⟨h1, h2⟩ hc; exact ⟨h1, hc.keep h2 (by have := HN.out.2.2.2.1; omega)⟩
  case assign =>
    intro l y W K hK
    have hsem := @Oper.semAt_some
    gi_wp2
    exact hK
  case body =>
    rintro l pre y W hpre hpx hcw
    have hb5 := hcw.keep HK5.out HN.out.1
    have hb6 := hcw.keep HK6.out HN.out.2.1
    have k5 := cell_of_block (i := 0) hb5 rfl
    have k6 := cell_of_block (i := 0) hb6 rfl
    have f6 := frozen_of_block (i := 0) hb6
    simp only [List.getElem_toArray, List.getElem_cons_zero] at k5 k6
    have HS6 := Lib.hid (setCell_block (i := 0) (.bool true) hb6)
    have HPR2 := Lib.hid hpre
    have HPX := Lib.hid hpx
    have hsem := @Oper.semAt_some
    clear hb5 hb6 hcw hpre hpx
    by_cases hyp : y = proto
    · subst hyp
      gi_wp2
      exact ⟨⟨HPX.out.subset (by simp), HS6.out⟩, Chg.setCell W ⟨b6, 0, none⟩ _⟩
    · have z1 : (y == proto) = false := beq_false_of_ne hyp
      gi_wp2
      exact ⟨⟨HPR2.out, Ne.symm hyp⟩, Chg.refl _ _⟩
  case done =>
    intro D W hD hi hcw hk
    have hb6 := hcw.keep HK6.out HN.out.2.1
    have k6 := cell_of_block (i := 0) hb6 rfl
    have f6 := frozen_of_block (i := 0) hb6
    simp only [List.getElem_toArray, List.getElem_cons_zero] at k6
    have HS6 := Lib.hid (setCell_block (i := 0) (.bool false) hb6)
    have HCWW := Lib.hid hcw
    have HKD := Lib.hid (show (W.setCell ⟨b6, 0, none⟩ (.bool false)).heap[D]? = some (.deferred (some [])) from (Chg.setCell W ⟨b6, 0, none⟩ _).keep hk (show ¬ D = b6 by have := HN.out.2.2.2.1; omega))
    have HDL := Lib.hid hD
    have hcf : (chainM hp 100001 pr).contains proto = false := by simpa using hi
    clear hb6 hcw hk hi hD
    dsimp only
    go_wp2_with fail
    rw [bodyM_eq]
    refine ⟨by simp, .inl ⟨_, _, rfl, run_takeDeferred HKD.out, ?_⟩⟩
    have hn := HN.out
    have hdl := HDL.out
    have hb6' := ((Chg.refl (fun k => k = D) (W.setCell ⟨b6, 0, none⟩ (.bool false))).putL D (.deferred none) (fun _ => rfl)).keep HS6.out (by omega)
    have k7 := cell_of_block (i := 0) hb6' rfl
    refine ⟨_, results_cell1 rfl _ _ b6 (.bool false) (by rfl) (run_loadVar1 _ _ _ 0 k7), ?_⟩
    rw [hcf]
    refine ⟨rfl, ?_⟩
    exact (((HCC.out.trans HCWW.out (fun _ _ x => x) (fun i hi x => by omega)).setCellR _ _ (fun h => by simp at h; omega)).putL _ _ (fun h => by omega))
  case stop =>
    rintro D pre W hD ⟨hin, hb6⟩ hcw hk
    have hn := HN.out
    have hcf : (chainM hp 100001 pr).contains proto = true := by simpa using hin
    gi_wp2
    rw [bodyM_eq]
    refine ⟨by simp, .inl ⟨_, _, rfl, run_takeDeferred hk, ?_⟩⟩
    have hb6' := ((Chg.refl (fun k => k = D) W).putL D (.deferred none) (fun _ => rfl)).keep hb6 (by omega)
    have k7 := cell_of_block (i := 0) hb6' rfl
    refine ⟨_, results_cell1 rfl _ _ b6 (.bool true) (by rfl) (run_loadVar1 _ _ _ 0 k7), ?_⟩
    rw [hcf]
    refine ⟨rfl, ?_⟩
    exact ((HCC.out.trans hcw (fun _ _ x => x) (fun i hi x => by omega)).putL _ _ (fun h => by omega))
theorem within_any (w : World) (bh : Nat) (hp : Hp) (F : List Nat) (o proto : Int) (H : Here hpR w bh 0 hp F) (ho : InJ o) (hpr : ∀ s (hs : s < hp.slots.length), InJ hp.slots[s].obj.proto) :
    Calls Tryd.prog 17 #[.pointer (some ⟨bh, 0, none⟩), .int .i64 o, .int .i64 proto] w fun e w' => e = .returned (.bool (withinM hp o proto)) ∧ Chg (fun _ => False) w w' := by
  unfold withinM
  cases hs : slotOf hp o with
  | none => exact within_nil w bh hp F o proto H ho hs
  | some i =>
    obtain ⟨hsl, -, -⟩ := slotOf_lt hs
    have e : hp.slots.getD i noSlt = hp.slots[i] := by rw [List.getD_eq_getElem?_getD, List.getElem?_eq_getElem hsl]; rfl
    have := within_some w bh hp F o proto i H ho hs hpr hsl
    rw [← e] at this
    exact this
end Go.Proofs.YtjianickjahdnaaDoor
namespace Go.Proofs.YtjianickjahdnaaDoor
open Go.RowKit
set_option linter.unusedVariables false
set_option linter.unusedSimpArgs false

def zeroV : Val := ⟨0, 0, ⟨#[]⟩, 0⟩
/-- A list of another length: cut, or with zeros behind it. -/
def resizeL (l : List Val) (n : Nat) : List Val := l.take n ++ List.replicate (n - l.length) zeroV
theorem resizeL_len (l : List Val) (n : Nat) : (resizeL l n).length = n := by
  unfold resizeL
  rw [List.length_append, List.length_take, List.length_replicate]; omega
theorem cells_one (l : List Val) : ∀ u ∈ l.flatMap Val.cells, u.oneCell' = true := fun u hu => by
  obtain ⟨v, -, h⟩ := List.mem_flatMap.1 hu
  unfold Val.cells at h
  simp only [List.mem_cons, List.not_mem_nil, or_false] at h
  rcases h with rfl | rfl | rfl | rfl <;> rfl
theorem flat_take : ∀ (l : List Val) (n : Nat), (l.flatMap Val.cells).take (n * 4) = (l.take n).flatMap Val.cells
  | [], n => by simp
  | a :: l, 0 => by simp
  | a :: l, n + 1 => by
    have ih := flat_take l n
    have hl : a.cells.length = 4 := Val.len a
    rw [List.flatMap_cons, List.take_succ_cons, List.flatMap_cons, show (n + 1) * 4 = a.cells.length + n * 4 by rw [hl]; omega, List.take_length_add_append, ih]
theorem rep_flat (m : Nat) : (List.replicate m zeroV.cells).flatten = (List.replicate m zeroV).flatMap Val.cells := by
  induction m with
  | zero => rfl
  | succ m ih => rw [List.replicate_succ, List.replicate_succ, List.flatten_cons, List.flatMap_cons, ih]
set_option maxHeartbeats 6400000 in
set_option maxRecDepth 100000 in
theorem resize_any (w : World) (g o : Nat) (x : Obj) (G : List Nat) (n : Nat) (H : Here objR w g o x G) (hl : x.elems.length ≤ 20000) (hn : n ≤ 20000) :
    Calls Tryd.prog 44 #[.pointer (some ⟨g, o, none⟩), .int .i64 (n : Int)] w fun e w' => e = .returned (.tuple #[]) ∧ Post objR w g o { x with elems := resizeL x.elems n } G w' := by
  obtain ⟨v, c3, hr, hin, hnb, hback⟩ := H.fieldFlat (f := Val.cells) (hf := Val.len) objR_elems (by show 0 < 10; decide)
  obtain ⟨a, cap, rfl, -⟩ := hr.slice
  obtain ⟨cB, TB, hbB⟩ := H.boxed
  generalize hle : x.elems = l at *
  have HBK := Lib.hid hback
  have HR := Lib.hid hr
  have HNB := Lib.hid hnb
  have HC1 := Lib.hid (cells_one l)
  have HL : Hid (l.length ≤ 1000000) := Lib.hid (by omega)
  have HS0 : Hid (w.cell? ⟨g, o + 3, none⟩ = some (.slice a l.length cap)) := Lib.hid c3
  have FRZ : Hid (∀ (w2 wD : World), Chg (fun _ => False) w wD → Chg (fun j => (Value.slice a l.length cap).ownBlock = some j) wD w2 → w2.frozen? ⟨g, o + 3, none⟩ = false) := Lib.hid (fun w2 wD h1 h2 => frozen_of_block (h2.keep (h1.keep hbB (fun x => x)) HNB.out))
  have n0 : (0 : Int) ≤ (n : Int) := by omega
  clear hback hr hnb hin hbB hle H
  by_cases hnl : n ≤ l.length
  · have HNL := Lib.hid hnl
    have hd : (n : Int) ≤ (l.length : Int) := by omega
    have HRL : Hid ((l.flatMap Val.cells).take (n * 4) ++ (l.flatMap Val.cells).drop (l.length * 4) = (resizeL l n).flatMap Val.cells) := Lib.hid (by
      have hll : (l.flatMap Val.cells).length = l.length * 4 := HR.out.1
      unfold resizeL
      rw [flat_take, List.drop_of_length_le (by omega), List.append_nil, show n - l.length = 0 by omega]
      simp)
    clear hnl hl hn
    go_enter Tryd.func44, Tryd.ntmps44
    go_upto_region 1 with fail
    clear c3
    refine wp_region_held_split 14 (fun w' => w'.cell? ⟨g, o + 3, none⟩ = some (.slice a l.length cap)) (by kernel_rfl) (by kernel_rfl) ?_ (fun hHeld => ?_)
    · (first | exact HS0.out | exact HKS.out _ (Chg.refl _ _) | exact cc2)
    simp only [List.take_succ_cons, List.take_zero]
    have HKS : Hid (∀ W, Chg (fun _ => False) w.drew W → W.cell? ⟨g, o + 3, none⟩ = some (.slice a l.length cap)) := Lib.hid (fun W hc => hc.cell HS0.out)
    have HWD : Hid (Chg (fun _ => False) w w.drew) := Lib.hid (Chg.refl _ w).drewR
    generalize w.drew = wD at *
    refine wpAnyH_take (i := 0) (v := ?_) rfl (by kernel_rfl) (by kernel_rfl) (by kernel_rfl) (fun _ _ _ h => h) (Or.inl ⟨by rfl, ?_⟩) (by assumption) ?_
    rotate_left
    · (intro wq hSw; (try dsimp only at hSw); go_simp; (try with_reducible rfl))
    simp only [Act.put, List.getElem_toArray, List.getElem_cons_zero, List.getElem_cons_succ, List.setIfInBounds_toArray, List.set_cons_zero, List.set_cons_succ]
    refine wpAnyH_take (i := 1) (v := ?_) rfl (by kernel_rfl) (by kernel_rfl) (by kernel_rfl) (fun _ _ _ h => h) (Or.inl ⟨by rfl, ?_⟩) (by assumption) ?_
    rotate_left
    · (intro wq hSw; (try dsimp only at hSw); go_simp; (try with_reducible rfl))
    simp only [Act.put, List.getElem_toArray, List.getElem_cons_zero, List.getElem_cons_succ, List.setIfInBounds_toArray, List.set_cons_zero, List.set_cons_succ]
    refine wpAnyH_take (i := 2) (v := ?_) rfl (by kernel_rfl) (by kernel_rfl) (by kernel_rfl) (fun _ _ _ h => h) (Or.inl ⟨by rfl, ?_⟩) (by assumption) ?_
    rotate_left
    · (intro wq hSw; (try dsimp only at hSw); go_simp; (try with_reducible rfl))
    simp only [Act.put, List.getElem_toArray, List.getElem_cons_zero, List.getElem_cons_succ, List.setIfInBounds_toArray, List.set_cons_zero, List.set_cons_succ]
    refine wpAnyH_take (i := 3) (v := ?_) rfl (by kernel_rfl) (by kernel_rfl) (by kernel_rfl) (fun _ _ _ h => h) (Or.inl ⟨by rfl, ?_⟩) (by assumption) ?_
    rotate_left
    · (intro wq hSw; (try dsimp only at hSw); go_simp; (try with_reducible rfl))
    simp only [Act.put, List.getElem_toArray, List.getElem_cons_zero, List.getElem_cons_succ, List.setIfInBounds_toArray, List.set_cons_zero, List.set_cons_succ]
    refine wpAnyH_take (i := 4) (v := ?_) rfl (by kernel_rfl) (by kernel_rfl) (by kernel_rfl) (fun _ _ _ h => h) (Or.inl ⟨by rfl, ?_⟩) (by assumption) ?_
    rotate_left
    · (intro wq hSw; (try dsimp only at hSw); go_simp; (try with_reducible rfl))
    simp only [Act.put, List.getElem_toArray, List.getElem_cons_zero, List.getElem_cons_succ, List.setIfInBounds_toArray, List.set_cons_zero, List.set_cons_succ]
    refine wpAnyH_take (i := 5) (v := ?_) rfl (by kernel_rfl) (by kernel_rfl) (by kernel_rfl) (fun _ _ _ h => h) (Or.inl ⟨by rfl, ?_⟩) (by assumption) ?_
    rotate_left
    · (intro wq hSw; (try dsimp only at hSw); go_simp; (try with_reducible rfl))
    simp only [Act.put, List.getElem_toArray, List.getElem_cons_zero, List.getElem_cons_succ, List.setIfInBounds_toArray, List.set_cons_zero, List.set_cons_succ]
    refine wpAnyH_take (i := 6) (v := ?_) rfl (by kernel_rfl) (by kernel_rfl) (by kernel_rfl) (fun _ _ _ h => h) (Or.inl ⟨by rfl, ?_⟩) (by assumption) ?_
    rotate_left
    · (intro wq hSw; (try dsimp only at hSw); go_simp; (try with_reducible rfl))
    simp only [Act.put, List.getElem_toArray, List.getElem_cons_zero, List.getElem_cons_succ, List.setIfInBounds_toArray, List.set_cons_zero, List.set_cons_succ]
    refine wpAnyH_take (i := 7) (v := ?_) rfl (by kernel_rfl) (by kernel_rfl) (by kernel_rfl) (fun _ _ _ h => h) (Or.inl ⟨by rfl, ?_⟩) (by assumption) ?_
    rotate_left
    · (intro wq hSw; (try dsimp only at hSw); go_simp; (try with_reducible rfl))
    simp only [Act.put, List.getElem_toArray, List.getElem_cons_zero, List.getElem_cons_succ, List.setIfInBounds_toArray, List.set_cons_zero, List.set_cons_succ]
    refine wpAnyH_take (i := 8) (v := ?_) rfl (by kernel_rfl) (by kernel_rfl) (by kernel_rfl) (fun _ _ _ h => h) (Or.inl ⟨by rfl, ?_⟩) (by assumption) ?_
    rotate_left
    · (intro wq hSw; (try dsimp only at hSw); go_simp; (try with_reducible rfl))
    simp only [Act.put, List.getElem_toArray, List.getElem_cons_zero, List.getElem_cons_succ, List.setIfInBounds_toArray, List.set_cons_zero, List.set_cons_succ]
    refine wpAnyH_take (i := 9) (v := ?_) rfl (by kernel_rfl) (by kernel_rfl) (by kernel_rfl) (fun _ _ _ h => h) (Or.inl ⟨by rfl, ?_⟩) (by assumption) ?_
    rotate_left
    · (intro wq hSw; (try dsimp only at hSw); go_simp; (try with_reducible rfl))
    simp only [Act.put, List.getElem_toArray, List.getElem_cons_zero, List.getElem_cons_succ, List.setIfInBounds_toArray, List.set_cons_zero, List.set_cons_succ]
    refine wpAnyH_take (i := 10) (v := ?_) rfl (by kernel_rfl) (by kernel_rfl) (by kernel_rfl) (fun _ _ _ h => h) (Or.inl ⟨by rfl, ?_⟩) (by assumption) ?_
    rotate_left
    · (intro wq hSw; (try dsimp only at hSw); go_simp; (try with_reducible rfl))
    simp only [Act.put, List.getElem_toArray, List.getElem_cons_zero, List.getElem_cons_succ, List.setIfInBounds_toArray, List.set_cons_zero, List.set_cons_succ]
    refine wpAnyH_ready (rs := [11]) (by kernel_rfl) (by simp) ?_
    refine AllReadyH.cons (by simp only [List.getElem?_toArray, List.getElem?_cons_succ, List.getElem?_cons_zero]; rfl) (fun K hK => ?_) AllReadyH.nil
    (go_simp; go_at_call 59; refine (delV_any wD (.slice a l.length cap) l.length n l.length (l.flatMap Val.cells) (HR.out.chg HWD.out (fun _ _ x => x)) HC1.out HNL.out (Nat.le_refl _) HL.out).mono ?_; rintro _ w2 ⟨v2, rfl, hrow2, hchg2, hold2⟩; have cc2 := hchg2.cellS (HKS.out _ (Chg.refl _ _)) HNB.out; obtain ⟨a2, c2_, rfl, -⟩ := hrow2.slice; have f2 : w2.frozen? ⟨g, o + 3, none⟩ = false := FRZ.out w2 _ HWD.out hchg2; go_simp)
    refine hK.out _ _ ?_ (fun hHeld => ?_)
    · (first | exact HS0.out | exact HKS.out _ (Chg.refl _ _) | exact cc2)
    clear hK K
    (try simp only [Act.put, List.getElem_toArray, List.getElem_cons_zero, List.getElem_cons_succ, List.setIfInBounds_toArray, List.set_cons_zero, List.set_cons_succ])
    refine wpAnyH_take (i := 12) (v := ?_) rfl (by kernel_rfl) (by kernel_rfl) (by kernel_rfl) (fun _ _ _ h => h) (Or.inl ⟨by rfl, ?_⟩) (by assumption) ?_
    rotate_left
    · (intro wq hSw; (try dsimp only at hSw); go_simp; (try with_reducible rfl))
    simp only [Act.put, List.getElem_toArray, List.getElem_cons_zero, List.getElem_cons_succ, List.setIfInBounds_toArray, List.set_cons_zero, List.set_cons_succ]
    refine wpAnyH_take (i := 13) (v := ?_) rfl (by kernel_rfl) (by kernel_rfl) (by kernel_rfl) (fun _ _ _ h => h) (Or.inl ⟨by rfl, ?_⟩) (by assumption) ?_
    rotate_left
    · (intro wq hSw; (try dsimp only at hSw); go_simp; (try with_reducible rfl))
    simp only [Act.put, List.getElem_toArray, List.getElem_cons_zero, List.getElem_cons_succ, List.setIfInBounds_toArray, List.set_cons_zero, List.set_cons_succ]
    refine wpAnyH_done (by kernel_rfl) ?_ _
    change wpList _ _ _ _ _ _
    simp only [List.drop_succ_cons, List.drop_zero]
    have hP := HBK.out w2 (.slice a2 (l.length - (l.length - n)) c2_) (resizeL l n) (HWD.out.trans hchg2 (fun _ _ x => x.elim) (fun _ _ x => x)) (by rw [← HRL.out, resizeL_len, show l.length - (l.length - n) = n by have := HNL.out; omega]; rwa [show l.length - (l.length - n) = n by have := HNL.out; omega] at hrow2) (fun j hj => .inl (hold2 j hj))
    have HP := Lib.hid hP
    clear hP hHeld hrow2 hchg2 hold2
    go_wp2_with fail
    refine bodyPost_ret (results_none rfl _ _ _) rfl ?_
    exact ⟨rfl, HP.out⟩
  · obtain ⟨m, hm⟩ : ∃ m, n = l.length + m := ⟨n - l.length, by omega⟩
    subst hm
    have hd : ¬ ((l.length + m : Nat) : Int) ≤ (l.length : Int) := by omega
    have hd2 : ¬ (l.length : Int) + (m : Int) ≤ (l.length : Int) := by omega
    have wm : IntKind.i64.wrap (((l.length + m : Nat) : Int) - (l.length : Int)) = (m : Int) := by rw [show (((l.length + m : Nat) : Int) - (l.length : Int)) = (m : Int) by omega]; exact IntWalk.i64_in _ (by omega)
    have wm2 : IntKind.i64.wrap ((l.length : Int) + (m : Int) - (l.length : Int)) = (m : Int) := by rw [show ((l.length : Int) + (m : Int) - (l.length : Int)) = (m : Int) by omega]; exact IntWalk.i64_in _ (by omega)
    have wm3 : IntKind.i64.wrap (m : Int) = (m : Int) := IntWalk.i64_in _ (by omega)
    have HM := Lib.hid hn
    obtain ⟨i0, z, hi, hz, hsz, hby, hzs, hzl⟩ := elemZ_val
    have HZO := Lib.hid (show ∀ u ∈ z.cells.toList, u.oneCell' = true from fun u hu => by rw [hzl] at hu; simp only [List.mem_cons, List.not_mem_nil, or_false] at hu; rcases hu with rfl | rfl | rfl | rfl <;> rfl)
    have HRL : Hid (l.flatMap Val.cells ++ (Builtin.zeroCells z.cells m).toList = (resizeL l (l.length + m)).flatMap Val.cells) := Lib.hid (by
      rw [zeroCells_rep hzl (by decide) m, show resizeL l (l.length + m) = l ++ List.replicate m zeroV by unfold resizeL; rw [List.take_of_length_le (by omega), Nat.add_sub_cancel_left], List.flatMap_append]; exact congrArg _ (rep_flat m))
    have HI := Lib.hid hi
    have HZ := Lib.hid hz
    have HSZ := Lib.hid hsz
    have HBY := Lib.hid hby
    have HZS := Lib.hid hzs
    clear hi hz hsz hby hzs hzl hnl hl hn
    go_enter Tryd.func44, Tryd.ntmps44
    go_upto_region 2 with fail
    clear c3
    refine wp_region_held_split 15 (fun w' => w'.cell? ⟨g, o + 3, none⟩ = some (.slice a l.length cap)) (by kernel_rfl) (by kernel_rfl) ?_ (fun hHeld => ?_)
    · (first | exact HS0.out | exact HKS.out _ (Chg.refl _ _) | exact cc2)
    simp only [List.take_succ_cons, List.take_zero]
    have HKS : Hid (∀ W, Chg (fun _ => False) w.drew W → W.cell? ⟨g, o + 3, none⟩ = some (.slice a l.length cap)) := Lib.hid (fun W hc => hc.cell HS0.out)
    have HWD : Hid (Chg (fun _ => False) w w.drew) := Lib.hid (Chg.refl _ w).drewR
    generalize w.drew = wD at *
    refine wpAnyH_take (i := 0) (v := ?_) rfl (by kernel_rfl) (by kernel_rfl) (by kernel_rfl) (fun _ _ _ h => h) (Or.inl ⟨by rfl, ?_⟩) (by assumption) ?_
    rotate_left
    · (intro wq hSw; (try dsimp only at hSw); go_simp; (try with_reducible rfl))
    simp only [Act.put, List.getElem_toArray, List.getElem_cons_zero, List.getElem_cons_succ, List.setIfInBounds_toArray, List.set_cons_zero, List.set_cons_succ]
    refine wpAnyH_take (i := 1) (v := ?_) rfl (by kernel_rfl) (by kernel_rfl) (by kernel_rfl) (fun _ _ _ h => h) (Or.inl ⟨by rfl, ?_⟩) (by assumption) ?_
    rotate_left
    · (intro wq hSw; (try dsimp only at hSw); go_simp; (try with_reducible rfl))
    simp only [Act.put, List.getElem_toArray, List.getElem_cons_zero, List.getElem_cons_succ, List.setIfInBounds_toArray, List.set_cons_zero, List.set_cons_succ]
    refine wpAnyH_take (i := 2) (v := ?_) rfl (by kernel_rfl) (by kernel_rfl) (by kernel_rfl) (fun _ _ _ h => h) (Or.inl ⟨by rfl, ?_⟩) (by assumption) ?_
    rotate_left
    · (intro wq hSw; (try dsimp only at hSw); go_simp; (try with_reducible rfl))
    simp only [Act.put, List.getElem_toArray, List.getElem_cons_zero, List.getElem_cons_succ, List.setIfInBounds_toArray, List.set_cons_zero, List.set_cons_succ]
    refine wpAnyH_take (i := 3) (v := ?_) rfl (by kernel_rfl) (by kernel_rfl) (by kernel_rfl) (fun _ _ _ h => h) (Or.inl ⟨by rfl, ?_⟩) (by assumption) ?_
    rotate_left
    · (intro wq hSw; (try dsimp only at hSw); go_simp; (try with_reducible rfl))
    simp only [Act.put, List.getElem_toArray, List.getElem_cons_zero, List.getElem_cons_succ, List.setIfInBounds_toArray, List.set_cons_zero, List.set_cons_succ]
    refine wpAnyH_take (i := 4) (v := ?_) rfl (by kernel_rfl) (by kernel_rfl) (by kernel_rfl) (fun _ _ _ h => h) (Or.inl ⟨by rfl, ?_⟩) (by assumption) ?_
    rotate_left
    · (intro wq hSw; (try dsimp only at hSw); go_simp; (try with_reducible rfl))
    simp only [Act.put, List.getElem_toArray, List.getElem_cons_zero, List.getElem_cons_succ, List.setIfInBounds_toArray, List.set_cons_zero, List.set_cons_succ]
    refine wpAnyH_take (i := 5) (v := ?_) rfl (by kernel_rfl) (by kernel_rfl) (by kernel_rfl) (fun _ _ _ h => h) (Or.inl ⟨by rfl, ?_⟩) (by assumption) ?_
    rotate_left
    · (intro wq hSw; (try dsimp only at hSw); go_simp; (try with_reducible rfl))
    simp only [Act.put, List.getElem_toArray, List.getElem_cons_zero, List.getElem_cons_succ, List.setIfInBounds_toArray, List.set_cons_zero, List.set_cons_succ]
    refine wpAnyH_take (i := 6) (v := ?_) rfl (by kernel_rfl) (by kernel_rfl) (by kernel_rfl) (fun _ _ _ h => h) (Or.inl ⟨by rfl, ?_⟩) (by assumption) ?_
    rotate_left
    · (intro wq hSw; (try dsimp only at hSw); go_simp; (try with_reducible rfl))
    simp only [Act.put, List.getElem_toArray, List.getElem_cons_zero, List.getElem_cons_succ, List.setIfInBounds_toArray, List.set_cons_zero, List.set_cons_succ]
    refine wpAnyH_take (i := 7) (v := ?_) rfl (by kernel_rfl) (by kernel_rfl) (by kernel_rfl) (fun _ _ _ h => h) (Or.inl ⟨by rfl, ?_⟩) (by assumption) ?_
    rotate_left
    · (intro wq hSw; (try dsimp only at hSw); go_simp; (try with_reducible rfl))
    simp only [Act.put, List.getElem_toArray, List.getElem_cons_zero, List.getElem_cons_succ, List.setIfInBounds_toArray, List.set_cons_zero, List.set_cons_succ]
    refine wpAnyH_take (i := 8) (v := ?_) rfl (by kernel_rfl) (by kernel_rfl) (by kernel_rfl) (fun _ _ _ h => h) (Or.inl ⟨by rfl, ?_⟩) (by assumption) ?_
    rotate_left
    · (intro wq hSw; (try dsimp only at hSw); go_simp; (try with_reducible rfl))
    simp only [Act.put, List.getElem_toArray, List.getElem_cons_zero, List.getElem_cons_succ, List.setIfInBounds_toArray, List.set_cons_zero, List.set_cons_succ]
    refine wpAnyH_take (i := 9) (v := ?_) rfl (by kernel_rfl) (by kernel_rfl) (by kernel_rfl) (fun _ _ _ h => h) (Or.inl ⟨by rfl, ?_⟩) (by assumption) ?_
    rotate_left
    · (intro wq hSw; (try dsimp only at hSw); go_simp; (try with_reducible rfl))
    simp only [Act.put, List.getElem_toArray, List.getElem_cons_zero, List.getElem_cons_succ, List.setIfInBounds_toArray, List.set_cons_zero, List.set_cons_succ]
    refine wpAnyH_take (i := 10) (v := ?_) rfl (by kernel_rfl) (by kernel_rfl) (by kernel_rfl) (fun _ _ _ h => h) (Or.inl ⟨by rfl, ?_⟩) (by assumption) ?_
    rotate_left
    · (intro wq hSw; (try dsimp only at hSw); go_simp; (try with_reducible rfl))
    simp only [Act.put, List.getElem_toArray, List.getElem_cons_zero, List.getElem_cons_succ, List.setIfInBounds_toArray, List.set_cons_zero, List.set_cons_succ]
    refine wpAnyH_take (i := 11) (v := ?_) rfl (by kernel_rfl) (by kernel_rfl) (by kernel_rfl) (fun _ _ _ h => h) (Or.inl ⟨by rfl, ?_⟩) (by assumption) ?_
    rotate_left
    · (intro wq hSw; (try dsimp only at hSw); go_simp; (try with_reducible rfl))
    simp only [Act.put, List.getElem_toArray, List.getElem_cons_zero, List.getElem_cons_succ, List.setIfInBounds_toArray, List.set_cons_zero, List.set_cons_succ]
    refine wpAnyH_ready (rs := [12]) (by kernel_rfl) (by simp) ?_
    refine AllReadyH.cons (by simp only [List.getElem?_toArray, List.getElem?_cons_succ, List.getElem?_cons_zero]; rfl) (fun K hK => ?_) AllReadyH.nil
    (refine step_append_zeros (by rfl) _ _ _ _ (by rfl) 36 i0 z 4 40 .i64 Tryd.underlying44 Tryd.underlying3 HI.out HZ.out HSZ.out HBY.out HZS.out (by decide) HZO.out _ l.length (l.flatMap Val.cells) (by rfl) (HR.out.chg HWD.out (fun _ _ x => x)) m (by rfl) (by have := HM.out; omega) (by have := HM.out; omega) ?_; intro a2 n2 c2_ w2 hrow2 hchg2 hold2; have cc2 := hchg2.cellS (HKS.out _ (Chg.refl _ _)) HNB.out; have f2 : w2.frozen? ⟨g, o + 3, none⟩ = false := FRZ.out w2 _ HWD.out hchg2)
    refine hK.out _ _ ?_ (fun hHeld => ?_)
    · (first | exact HS0.out | exact HKS.out _ (Chg.refl _ _) | exact cc2)
    clear hK K
    (try simp only [Act.put, List.getElem_toArray, List.getElem_cons_zero, List.getElem_cons_succ, List.setIfInBounds_toArray, List.set_cons_zero, List.set_cons_succ])
    refine wpAnyH_take (i := 13) (v := ?_) rfl (by kernel_rfl) (by kernel_rfl) (by kernel_rfl) (fun _ _ _ h => h) (Or.inl ⟨by rfl, ?_⟩) (by assumption) ?_
    rotate_left
    · (intro wq hSw; (try dsimp only at hSw); go_simp; (try with_reducible rfl))
    simp only [Act.put, List.getElem_toArray, List.getElem_cons_zero, List.getElem_cons_succ, List.setIfInBounds_toArray, List.set_cons_zero, List.set_cons_succ]
    refine wpAnyH_take (i := 14) (v := ?_) rfl (by kernel_rfl) (by kernel_rfl) (by kernel_rfl) (fun _ _ _ h => h) (Or.inl ⟨by rfl, ?_⟩) (by assumption) ?_
    rotate_left
    · (intro wq hSw; (try dsimp only at hSw); go_simp; (try with_reducible rfl))
    simp only [Act.put, List.getElem_toArray, List.getElem_cons_zero, List.getElem_cons_succ, List.setIfInBounds_toArray, List.set_cons_zero, List.set_cons_succ]
    refine wpAnyH_done (by kernel_rfl) ?_ _
    change wpList _ _ _ _ _ _
    simp only [List.drop_succ_cons, List.drop_zero]
    have hP := HBK.out w2 (.slice a2 n2 c2_) (resizeL l (l.length + m)) (HWD.out.trans hchg2 (fun _ _ x => x.elim) (fun _ _ x => x)) (by rw [← HRL.out, resizeL_len]; exact hrow2) (fun j hj => (hold2 j hj).imp id (fun x => by have := HWD.out.size; omega))
    have HP := Lib.hid hP
    clear hP hHeld hrow2 hchg2 hold2
    go_wp2_with fail
    go_end0
    exact ⟨rfl, HP.out⟩
end Go.Proofs.YtjianickjahdnaaDoor
namespace Go.Proofs.YtjianickjahdnaaDoor
open Go.RowKit
set_option linter.unusedVariables false
set_option linter.unusedSimpArgs false

set_option maxHeartbeats 6400000 in
set_option maxRecDepth 100000 in
theorem put_len (w : World) (b : Nat) (hp : Hp) (F : List Nat) (h : Int) (i : Nat) (x y : Val) (H : Here hpR w b 0 hp F) (hi : -9223372036854775808 ≤ h ∧ h ≤ 9223372036854775807) (hs : slotOf hp h = some i) (hl : i < hp.slots.length) (hk : hp.slots[i].obj.kind = 1) (hle : hp.slots[i].obj.elems.length ≤ 20000)
    (HN : ∀ W, Chg (fun _ => False) w W → Calls Tryd.prog 37 #[.agg #[.int .i64 x.kind, .int .i64 x.int, .string x.str, .int .i64 x.ref]] W fun e w' => e = .returned (.agg #[.int .i64 y.kind, .int .i64 y.int, .string y.str, .int .i64 y.ref]) ∧ Chg (fun _ => False) W w') (n : Nat) (hy : y.kind = 3 ∧ y.int = (n : Int)) (hn : n ≤ 10000) :
    Calls Tryd.prog 24 #[.pointer (some ⟨b, 0, none⟩), .int .i64 h, .string ⟨#[108, 101, 110, 103, 116, 104]⟩, .agg #[.int .i64 x.kind, .int .i64 x.int, .string x.str, .int .i64 x.ref]] w fun e w' => e = .returned (.int .i64 0) ∧ Post hpR w b 0 (putO hp i { hp.slots[i].obj with elems := resizeL hp.slots[i].obj.elems n }) F w' := by
  have HYY := Lib.hid hy
  have HNL := Lib.hid hn
  clear hy hn
  have hca := Chg.alloc (fun _ => False) w (.cells #[.int .i64 x.kind, .int .i64 x.int, .string x.str, .int .i64 x.ref] 36)
  have kb := alloc_block w (.cells #[.int .i64 x.kind, .int .i64 x.int, .string x.str, .int .i64 x.ref] 36)
  have HKB := Lib.hid kb
  have H2 := H.still hca
  obtain ⟨gh, oh, kh, c2, G, HOBJ0, hGF, hput⟩ := hpPut H hl
  obtain ⟨vp, ve, vd, vs, HOC⟩ := objOpen HOBJ0
  obtain ⟨ae, cape, rfl, -⟩ := HOC.re.slice
  have k0 := HOC.c0
  rw [hk] at k0
  have HC0 := Lib.hid k0
  have HC3 := Lib.hid HOC.c3
  have hat := hat_any _ b 0 hp F h _ H2 (by rw [Nat.zero_add]; exact hca.cell c2) hi
  rw [hs, show objPtr (.slice (some ⟨gh, oh, none⟩) hp.slots.length kh) (some i) = some ⟨gh, oh + i * 11 + 1, none⟩ from rfl] at hat
  have HAT := Lib.hid hat
  have HNN := Lib.hid HN
  generalize hx : hp.slots[i].obj = o_ at *
  have HX := Lib.hid hx
  have HCA := Lib.hid hca
  have HOB := Lib.hid HOBJ0
  have HPT := Lib.hid hput
  have HLT := Lib.hid HOBJ0.lt
  have HLE := Lib.hid hle
  clear kb hca H2 c2 HOBJ0 hGF hput HOC k0 hi hs H hx hk hat HN hle
  go_enter Tryd.func24, Tryd.ntmps24
  go_upto_region 1 with fail
  generalize hw2 : w.alloc (.cells #[.int .i64 x.kind, .int .i64 x.int, .string x.str, .int .i64 x.ref] 36) = w1 at *
  generalize hb7 : w.heap.size = b7 at *
  have HB7E := Lib.hid hb7
  clear hw2 hb7
  go_upto_region 4 with (go_at_call 35; refine HAT.out.mono ?_; rintro e wa ⟨rfl, hca⟩)
  have HC1 := Lib.hid (HCA.out.trans' hca)
  have HKB2 := Lib.hid (hca.keep HKB.out (fun x => x))
  have k0 := cell_of_block (i := 0) HKB2.out rfl
  have k1 := cell_of_block (i := 1) HKB2.out rfl
  have k2 := cell_of_block (i := 2) HKB2.out rfl
  have k3 := cell_of_block (i := 3) HKB2.out rfl
  simp only [List.getElem_toArray, List.getElem_cons_zero, List.getElem_cons_succ] at k0 k1 k2 k3
  clear hca HAT HKB
  go_upto_region 5 with (go_at_call 37; refine (HNN.out _ HC1.out).mono ?_; rintro e wn ⟨rfl, hcn⟩; have hbn := hcn.keep HKB2.out (fun x => x); obtain ⟨z10, q0, z11, q1, z12, q2, z13, q3, hbf, hcs⟩ := store4 hbn (.int .i64 y.kind) (.int .i64 y.int) (.string y.str) (.int .i64 y.ref))
  have HB7 := Lib.hid hbf
  have hc4 : Chg (fun _ => False) w (((((wn.setCell ⟨b7, 0, none⟩ (.int .i64 y.kind)).setCell ⟨b7, 1, none⟩ (.int .i64 y.int)).setCell ⟨b7, 2, none⟩ (.string y.str)).setCell ⟨b7, 3, none⟩ (.int .i64 y.ref))) := (HC1.out.trans' hcn).trans hcs (fun _ _ x => x) (fun k hk e => by have := HB7E.out; omega)
  clear hbf hcs hcn hbn z10 q0 z11 q1 z12 q2 z13 q3 k0 k1 k2 k3
  generalize ((((wn.setCell ⟨b7, 0, none⟩ (.int .i64 y.kind)).setCell ⟨b7, 1, none⟩ (.int .i64 y.int)).setCell ⟨b7, 2, none⟩ (.string y.str)).setCell ⟨b7, 3, none⟩ (.int .i64 y.ref)) = w4 at *
  have c0 := hc4.cell HC0.out
  have HC4 := Lib.hid hc4
  clear hc4 HNN HKB2 HC1 HCA
  have n0 := cell_of_block (i := 0) HB7.out rfl
  have n1 := cell_of_block (i := 1) HB7.out rfl
  simp only [List.getElem_toArray, List.getElem_cons_zero, List.getElem_cons_succ] at n0 n1
  rw [HYY.out.1] at n0
  rw [HYY.out.2] at n1
  have g0 : ¬ (n : Int) < 0 := by omega
  have g1 : ¬ (10000 : Int) < (n : Int) := by have := HNL.out; omega
  have HRS := Lib.hid (resize_any w4 gh (oh + i * 11 + 1) o_ G n (HOB.out.still HC4.out) HLE.out (by have := HNL.out; omega))
  go_wp2_with (go_at_call 44; refine HRS.out.mono ?_; rintro e w5 ⟨rfl, hp5⟩)
  go_ret
  exact ⟨rfl, HPT.out _ _ (Post.pre HC4.out hp5)⟩
set_option maxHeartbeats 6400000 in
set_option maxRecDepth 100000 in
theorem put_range (w : World) (b : Nat) (hp : Hp) (F : List Nat) (h : Int) (i : Nat) (x y : Val) (H : Here hpR w b 0 hp F) (hi : -9223372036854775808 ≤ h ∧ h ≤ 9223372036854775807) (hs : slotOf hp h = some i) (hl : i < hp.slots.length) (hk : hp.slots[i].obj.kind = 1) (hle : hp.slots[i].obj.elems.length ≤ 20000)
    (HN : ∀ W, Chg (fun _ => False) w W → Calls Tryd.prog 37 #[.agg #[.int .i64 x.kind, .int .i64 x.int, .string x.str, .int .i64 x.ref]] W fun e w' => e = .returned (.agg #[.int .i64 y.kind, .int .i64 y.int, .string y.str, .int .i64 y.ref]) ∧ Chg (fun _ => False) W w') (hy : y.kind ≠ 3 ∨ y.int < 0 ∨ 10000 < y.int) :
    Calls Tryd.prog 24 #[.pointer (some ⟨b, 0, none⟩), .int .i64 h, .string ⟨#[108, 101, 110, 103, 116, 104]⟩, .agg #[.int .i64 x.kind, .int .i64 x.int, .string x.str, .int .i64 x.ref]] w fun e w' => e = .returned (.int .i64 2) ∧ Chg (fun _ => False) w w' := by
  have HYY := Lib.hid hy
  clear hy
  have hca := Chg.alloc (fun _ => False) w (.cells #[.int .i64 x.kind, .int .i64 x.int, .string x.str, .int .i64 x.ref] 36)
  have kb := alloc_block w (.cells #[.int .i64 x.kind, .int .i64 x.int, .string x.str, .int .i64 x.ref] 36)
  have HKB := Lib.hid kb
  have H2 := H.still hca
  obtain ⟨gh, oh, kh, c2, G, HOBJ0, hGF, hput⟩ := hpPut H hl
  obtain ⟨vp, ve, vd, vs, HOC⟩ := objOpen HOBJ0
  obtain ⟨ae, cape, rfl, -⟩ := HOC.re.slice
  have k0 := HOC.c0
  rw [hk] at k0
  have HC0 := Lib.hid k0
  have HC3 := Lib.hid HOC.c3
  have hat := hat_any _ b 0 hp F h _ H2 (by rw [Nat.zero_add]; exact hca.cell c2) hi
  rw [hs, show objPtr (.slice (some ⟨gh, oh, none⟩) hp.slots.length kh) (some i) = some ⟨gh, oh + i * 11 + 1, none⟩ from rfl] at hat
  have HAT := Lib.hid hat
  have HNN := Lib.hid HN
  generalize hx : hp.slots[i].obj = o_ at *
  have HX := Lib.hid hx
  have HCA := Lib.hid hca
  have HOB := Lib.hid HOBJ0
  have HPT := Lib.hid hput
  have HLT := Lib.hid HOBJ0.lt
  have HLE := Lib.hid hle
  clear kb hca H2 c2 HOBJ0 hGF hput HOC k0 hi hs H hx hk hat HN hle
  go_enter Tryd.func24, Tryd.ntmps24
  go_upto_region 1 with fail
  generalize hw2 : w.alloc (.cells #[.int .i64 x.kind, .int .i64 x.int, .string x.str, .int .i64 x.ref] 36) = w1 at *
  generalize hb7 : w.heap.size = b7 at *
  have HB7E := Lib.hid hb7
  clear hw2 hb7
  go_upto_region 4 with (go_at_call 35; refine HAT.out.mono ?_; rintro e wa ⟨rfl, hca⟩)
  have HC1 := Lib.hid (HCA.out.trans' hca)
  have HKB2 := Lib.hid (hca.keep HKB.out (fun x => x))
  have k0 := cell_of_block (i := 0) HKB2.out rfl
  have k1 := cell_of_block (i := 1) HKB2.out rfl
  have k2 := cell_of_block (i := 2) HKB2.out rfl
  have k3 := cell_of_block (i := 3) HKB2.out rfl
  simp only [List.getElem_toArray, List.getElem_cons_zero, List.getElem_cons_succ] at k0 k1 k2 k3
  clear hca HAT HKB
  go_upto_region 5 with (go_at_call 37; refine (HNN.out _ HC1.out).mono ?_; rintro e wn ⟨rfl, hcn⟩; have hbn := hcn.keep HKB2.out (fun x => x); obtain ⟨z10, q0, z11, q1, z12, q2, z13, q3, hbf, hcs⟩ := store4 hbn (.int .i64 y.kind) (.int .i64 y.int) (.string y.str) (.int .i64 y.ref))
  have HB7 := Lib.hid hbf
  have hc4 : Chg (fun _ => False) w (((((wn.setCell ⟨b7, 0, none⟩ (.int .i64 y.kind)).setCell ⟨b7, 1, none⟩ (.int .i64 y.int)).setCell ⟨b7, 2, none⟩ (.string y.str)).setCell ⟨b7, 3, none⟩ (.int .i64 y.ref))) := (HC1.out.trans' hcn).trans hcs (fun _ _ x => x) (fun k hk e => by have := HB7E.out; omega)
  clear hbf hcs hcn hbn z10 q0 z11 q1 z12 q2 z13 q3 k0 k1 k2 k3
  generalize ((((wn.setCell ⟨b7, 0, none⟩ (.int .i64 y.kind)).setCell ⟨b7, 1, none⟩ (.int .i64 y.int)).setCell ⟨b7, 2, none⟩ (.string y.str)).setCell ⟨b7, 3, none⟩ (.int .i64 y.ref)) = w4 at *
  have c0 := hc4.cell HC0.out
  have HC4 := Lib.hid hc4
  clear hc4 HNN HKB2 HC1 HCA
  have n0 := cell_of_block (i := 0) HB7.out rfl
  have n1 := cell_of_block (i := 1) HB7.out rfl
  simp only [List.getElem_toArray, List.getElem_cons_zero, List.getElem_cons_succ] at n0 n1
  by_cases h3 : y.kind = 3
  · rw [h3] at n0
    by_cases h4 : y.int < 0
    · go_wp2_with fail
      go_ret
      exact ⟨rfl, HC4.out⟩
    · have g1 : (10000 : Int) < y.int := by have := HYY.out; omega
      go_wp2_with fail
      go_ret
      exact ⟨rfl, HC4.out⟩
  · have g1 : (y.kind != 3) = true := bne_iff_ne.2 h3
    have g2 : (y.kind == 3) = false := beq_false_of_ne h3
    go_wp2_with fail
    go_ret
    exact ⟨rfl, HC4.out⟩
end Go.Proofs.YtjianickjahdnaaDoor
namespace Go.Proofs.YtjianickjahdnaaDoor
open Go.RowKit
set_option linter.unusedVariables false
set_option linter.unusedSimpArgs false

theorem results_cell_cell {fn : Func} {p q : Tmp} {ty ty2 : TypeId} {P : Program} (h : fn.results = #[.cell p ty, .cell q ty2]) (tmps : Array Value) (w : World) (g g2 : Nat) (v v2 : Value) (hp : tmps.getD p undef = .pointer (some ⟨g, 0, none⟩)) (hq : tmps.getD q undef = .pointer (some ⟨g2, 0, none⟩)) (hl : (loadVar ty ⟨g, 0, none⟩).run P w = .ok v w) (hl2 : (loadVar ty2 ⟨g2, 0, none⟩).run P w = .ok v2 w) :
    (results fn tmps).run P w = .ok (.tuple #[v, v2]) w := by
  have hp' : tmps[p]?.getD undef = .pointer (some ⟨g, 0, none⟩) := by simpa using hp
  have hq' : tmps[q]?.getD undef = .pointer (some ⟨g2, 0, none⟩) := by simpa using hq
  simp [results, h, Sem.run_bind, Result.andThen, hp', hq', asAddr, hl, hl2]
def prpVal (p : Prp) : Val := ⟨p.vkind, p.vint, p.vstr, p.vref⟩
/-- An object's own property. -/
def ownR (hp : Hp) (key : ByteArray) (x : Int) : Val × Bool := match slotOf hp x with
  | none => (zeroV, false)
  | some i => match findP key (hp.slots.getD i noSlt).obj.props 0 with
    | none => (zeroV, false)
    | some j => match (hp.slots.getD i noSlt).obj.props[j]? with
      | none => (zeroV, false)
      | some p => (prpVal p, true)
/-- No arrays, and no more properties than the machine can count. -/
def Plain (hp : Hp) : Prop := ∀ s (hs : s < hp.slots.length), hp.slots[s].obj.kind ≠ 1 ∧ hp.slots[s].obj.props.length ≤ 1000000
theorem own_rec (w : World) (b : Nat) (hp : Hp) (F : List Nat) (h : Int) (key : ByteArray) (H : Here hpR w b 0 hp F) (hi : InJ h) (hpl : Plain hp) (hfl : ∀ (l : List Prp) (j : Nat), findP key l 0 = some j → j < l.length) :
    Calls Tryd.prog 23 #[.pointer (some ⟨b, 0, none⟩), .int .i64 h, .string key] w fun e w' => e = .returned (.tuple #[.agg #[.int .i64 (ownR hp key h).1.kind, .int .i64 (ownR hp key h).1.int, .string (ownR hp key h).1.str, .int .i64 (ownR hp key h).1.ref], .bool (ownR hp key h).2]) ∧ Chg (fun _ => False) w w' := by
  cases hs : slotOf hp h with
  | none =>
    have e : ownR hp key h = (zeroV, false) := by unfold ownR; rw [hs]
    rw [e]
    exact own_nil w b hp F h key H hi hs
  | some i =>
    obtain ⟨hsl, -, -⟩ := slotOf_lt hs
    have eg : hp.slots.getD i noSlt = hp.slots[i] := by rw [List.getD_eq_getElem?_getD, List.getElem?_eq_getElem hsl]; rfl
    obtain ⟨hk, hlp⟩ := hpl i hsl
    cases hf : findP key hp.slots[i].obj.props 0 with
    | none =>
      have e : ownR hp key h = (zeroV, false) := by unfold ownR; rw [hs]; simp only; rw [eg, hf]
      rw [e]
      exact own_not w b hp F h i key H hi hs hsl hk hf
    | some j =>
      have hj := hfl _ _ hf
      have e : ownR hp key h = (prpVal hp.slots[i].obj.props[j], true) := by unfold ownR; rw [hs]; simp only; rw [eg, hf]; simp only; rw [List.getElem?_eq_getElem hj]
      rw [e]
      exact own_has w b hp F h i key j H hi hs hsl hk hf hj hlp
def lookupR (hp : Hp) (key : ByteArray) (xs : List Int) : Val × Bool := match xs.find? (fun x => (ownR hp key x).2) with
  | none => (zeroV, false)
  | some x => ((ownR hp key x).1, true)
theorem find_stop {α : Type} (p : α → Bool) : ∀ (xs pre : List α) (x : α), (pre ++ [x]) <+: xs → (∀ y ∈ pre, p y = false) → p x = true → xs.find? p = some x
  | xs, [], x, ⟨t, ht⟩, _, hx => by subst ht; simp [hx]
  | xs, a :: pre, x, ⟨t, ht⟩, hn, hx => by
    subst ht
    have ih := find_stop p (pre ++ [x] ++ t) pre x ⟨t, rfl⟩ (fun y hy => hn y (by simp [hy])) hx
    show (a :: (pre ++ [x] ++ t)).find? p = some x
    rw [List.find?_cons_of_neg (by simp [hn a (by simp)]), ih]
theorem find_none {α : Type} (p : α → Bool) (xs : List α) (h : ∀ y ∈ xs, p y = false) : xs.find? p = none := by
  rw [List.find?_eq_none]
  intro y hy
  simp [h y hy]
theorem lookup_of_stop {hp : Hp} {key : ByteArray} {xs pre : List Int} {x : Int} (h : (pre ++ [x]) <+: xs) (hn : ∀ y ∈ pre, (ownR hp key y).2 = false) (hx : (ownR hp key x).2 = true) : lookupR hp key xs = ((ownR hp key x).1, true) := by
  unfold lookupR
  rw [find_stop _ xs pre x h hn hx]
theorem lookup_of_none {hp : Hp} {key : ByteArray} {xs : List Int} (hn : ∀ y ∈ xs, (ownR hp key y).2 = false) : lookupR hp key xs = (zeroV, false) := by
  unfold lookupR
  rw [find_none _ xs hn]
theorem chainM_in {hp : Hp} (hpr : ∀ s (hs : s < hp.slots.length), InJ hp.slots[s].obj.proto) : ∀ (n : Nat) (o : Int), InJ o → ∀ x ∈ chainM hp n o, InJ x
  | 0, o, _, x, hx => by simp [chainM] at hx
  | n + 1, o, ho, x, hx => by
    cases hs : slotOf hp o with
    | none => rw [chainM_none hs] at hx; simp at hx
    | some i =>
      obtain ⟨hsl, -, -⟩ := slotOf_lt hs
      rw [chainM_some hs hsl] at hx
      rcases List.mem_cons.1 hx with rfl | hx
      · exact ho
      · exact chainM_in hpr n _ (hpr i hsl) x hx

set_option maxHeartbeats 6400000 in
set_option maxRecDepth 100000 in
theorem lookup_any (w : World) (bh : Nat) (hp : Hp) (F : List Nat) (o : Int) (key : ByteArray) (H : Here hpR w bh 0 hp F) (ho : InJ o) (hpr : ∀ s (hs : s < hp.slots.length), InJ hp.slots[s].obj.proto) (hpl : Plain hp) (hfl : ∀ (l : List Prp) (j : Nat), findP key l 0 = some j → j < l.length) :
    Calls Tryd.prog 29 #[.pointer (some ⟨bh, 0, none⟩), .int .i64 o, .string key] w fun e w' => e = .returned (.tuple #[.agg #[.int .i64 (lookupR hp key (chainM hp 100001 o)).1.kind, .int .i64 (lookupR hp key (chainM hp 100001 o)).1.int, .string (lookupR hp key (chainM hp 100001 o)).1.str, .int .i64 (lookupR hp key (chainM hp 100001 o)).1.ref], .bool (lookupR hp key (chainM hp 100001 o)).2]) ∧ Chg (fun _ => False) w w' := by
  refine (callsIn_wide (n := 9)).1 (callsIn_of_wp_marks Tryd.func29 rfl trivial ?_)
  refine (wpIn_wide (n := 9) (P := Tryd.prog)).2 ?_
  have HOW := Lib.hid (fun W x (hc : Here hpR W bh 0 hp F) (hx : InJ x) => own_rec W bh hp F x key hc hx hpl hfl)
  have HCI := Lib.hid (chainM_in hpr 100001 o ho)
  have HIN := Lib.hid ho
  have HPR := Lib.hid hpr
  have HH := Lib.hid H
  have q0 := alloc_block w (.cells #[.pointer (some ⟨bh, 0, none⟩)] 73)
  have q1 := alloc_block (w.alloc (.cells #[.pointer (some ⟨bh, 0, none⟩)] 73)) (.cells #[.string key] 9)
  have z1 : (w.alloc (.cells #[.pointer (some ⟨bh, 0, none⟩)] 73)).heap.size = w.heap.size + 1 := by simp
  rw [z1] at q1
  have q2 := alloc_block ((w.alloc (.cells #[.pointer (some ⟨bh, 0, none⟩)] 73)).alloc (.cells #[.string key] 9)) (.cells #[.int .i64 0, .int .i64 0, .string ⟨#[]⟩, .int .i64 0] 36)
  have z2 : ((w.alloc (.cells #[.pointer (some ⟨bh, 0, none⟩)] 73)).alloc (.cells #[.string key] 9)).heap.size = w.heap.size + 2 := by simp
  rw [z2] at q2
  have q3 := alloc_block (((w.alloc (.cells #[.pointer (some ⟨bh, 0, none⟩)] 73)).alloc (.cells #[.string key] 9)).alloc (.cells #[.int .i64 0, .int .i64 0, .string ⟨#[]⟩, .int .i64 0] 36)) (.cells #[.bool false] 4)
  have z3 : (((w.alloc (.cells #[.pointer (some ⟨bh, 0, none⟩)] 73)).alloc (.cells #[.string key] 9)).alloc (.cells #[.int .i64 0, .int .i64 0, .string ⟨#[]⟩, .int .i64 0] 36)).heap.size = w.heap.size + 3 := by simp
  rw [z3] at q3
  replace q0 := (Chg.alloc (fun _ => False) (w.alloc (.cells #[.pointer (some ⟨bh, 0, none⟩)] 73)) (.cells #[.string key] 9)).keep q0 (fun x => x)
  replace q0 := (Chg.alloc (fun _ => False) ((w.alloc (.cells #[.pointer (some ⟨bh, 0, none⟩)] 73)).alloc (.cells #[.string key] 9)) (.cells #[.int .i64 0, .int .i64 0, .string ⟨#[]⟩, .int .i64 0] 36)).keep q0 (fun x => x)
  replace q0 := (Chg.alloc (fun _ => False) (((w.alloc (.cells #[.pointer (some ⟨bh, 0, none⟩)] 73)).alloc (.cells #[.string key] 9)).alloc (.cells #[.int .i64 0, .int .i64 0, .string ⟨#[]⟩, .int .i64 0] 36)) (.cells #[.bool false] 4)).keep q0 (fun x => x)
  replace q1 := (Chg.alloc (fun _ => False) ((w.alloc (.cells #[.pointer (some ⟨bh, 0, none⟩)] 73)).alloc (.cells #[.string key] 9)) (.cells #[.int .i64 0, .int .i64 0, .string ⟨#[]⟩, .int .i64 0] 36)).keep q1 (fun x => x)
  replace q1 := (Chg.alloc (fun _ => False) (((w.alloc (.cells #[.pointer (some ⟨bh, 0, none⟩)] 73)).alloc (.cells #[.string key] 9)).alloc (.cells #[.int .i64 0, .int .i64 0, .string ⟨#[]⟩, .int .i64 0] 36)) (.cells #[.bool false] 4)).keep q1 (fun x => x)
  replace q2 := (Chg.alloc (fun _ => False) (((w.alloc (.cells #[.pointer (some ⟨bh, 0, none⟩)] 73)).alloc (.cells #[.string key] 9)).alloc (.cells #[.int .i64 0, .int .i64 0, .string ⟨#[]⟩, .int .i64 0] 36)) (.cells #[.bool false] 4)).keep q2 (fun x => x)
  have hcA : Chg (fun _ => False) w ((((w.alloc (.cells #[.pointer (some ⟨bh, 0, none⟩)] 73)).alloc (.cells #[.string key] 9)).alloc (.cells #[.int .i64 0, .int .i64 0, .string ⟨#[]⟩, .int .i64 0] 36)).alloc (.cells #[.bool false] 4)) := (((Chg.alloc (fun _ => False) w (.cells #[.pointer (some ⟨bh, 0, none⟩)] 73)).allocR _).allocR _).allocR _
  have HCA := Lib.hid hcA
  have HQ0 := Lib.hid q0
  have HQ1 := Lib.hid q1
  have HQ2 := Lib.hid q2
  have HQ3 := Lib.hid q3
  have k0 := cell_of_block (i := 0) q0 rfl
  simp only [List.getElem_toArray, List.getElem_cons_zero] at k0
  clear q0 q1 q2 q3 z1 z2 z3 hcA H ho hpr hpl hfl
  simp only [Tryd.ntmps29, List.size_toArray, List.length_cons, List.length_nil, Nat.reduceAdd, Nat.reduceSub, Array.replicate_succ, Array.replicate_zero, List.push_toArray, List.append_toArray, List.nil_append, List.cons_append]
  go_upto_region 1 with fail
  generalize ((((w.alloc (.cells #[.pointer (some ⟨bh, 0, none⟩)] 73)).alloc (.cells #[.string key] 9)).alloc (.cells #[.int .i64 0, .int .i64 0, .string ⟨#[]⟩, .int .i64 0] 36)).alloc (.cells #[.bool false] 4)) = w1 at *
  generalize hb7 : w.heap.size + 3 = b7 at *
  generalize hb6 : w.heap.size + 2 = b6 at *
  generalize hb5 : w.heap.size + 1 = b5 at *
  generalize hb3 : w.heap.size = b3 at *
  have HB := Lib.hid (show w.heap.size = b3 ∧ b3 + 1 = b5 ∧ b3 + 2 = b6 ∧ b3 + 3 = b7 from ⟨hb3, hb5, hb6, hb7⟩)
  clear hb7 hb6 hb5 hb3
  have HCE := Lib.hid (chain_any w1 (some ⟨bh, 0, none⟩) o)
  go_wp2_with (go_at_call 36; refine HCE.out.mono ?_; rintro e wc ⟨rfl, rfl⟩)
  have hk1 := (Chg.alloc (fun _ => False) (w1.alloc (.cells #[.pointer (some ⟨bh, 0, none⟩)] 73)) (.cells #[.int .i64 o] 3)).keep (alloc_block w1 (.cells #[.pointer (some ⟨bh, 0, none⟩)] 73)) (fun x => x)
  have hk2 := alloc_block (w1.alloc (.cells #[.pointer (some ⟨bh, 0, none⟩)] 73)) (.cells #[.int .i64 o] 3)
  have hs2 : (w1.alloc (.cells #[.pointer (some ⟨bh, 0, none⟩)] 73)).heap.size = w1.heap.size + 1 := Array.size_push ..
  rw [hs2] at hk2
  have hcc := (Chg.alloc (fun _ => False) w1 (.cells #[.pointer (some ⟨bh, 0, none⟩)] 73)).allocR (.cells #[.int .i64 o] 3)
  have HCC := Lib.hid (HCA.out.trans' hcc)
  have hl7 := lt_of_block HQ3.out
  have HK0 := Lib.hid (hcc.keep HQ0.out (fun x => x))
  have HK5 := Lib.hid (hcc.keep HQ1.out (fun x => x))
  have HK6 := Lib.hid (hcc.keep HQ2.out (fun x => x))
  have HK7 := Lib.hid (hcc.keep HQ3.out (fun x => x))
  generalize (w1.alloc (.cells #[.pointer (some ⟨bh, 0, none⟩)] 73)).alloc (.cells #[.int .i64 o] 3) = wc at *
  generalize hb1e : w1.heap.size = b1 at *
  have hlt2 := lt_of_block hk2
  have HF := Lib.hid (HH.out.still HCC.out)
  have HK1 := Lib.hid hk1
  have HK2 := Lib.hid hk2
  have hb := HB.out
  have hbl := HH.out.lt
  have HN : Hid (b3 ≠ b1 + 1 ∧ b5 ≠ b1 + 1 ∧ b6 ≠ b1 + 1 ∧ b7 ≠ b1 + 1 ∧ b1 + 1 < wc.heap.size ∧ b6 < wc.heap.size ∧ b7 < wc.heap.size ∧ w.heap.size ≤ b6 ∧ w.heap.size ≤ b7 ∧ b6 ≠ b7 ∧ w.heap.size ≤ b1 + 1) := Lib.hid ⟨by omega, by omega, by omega, by omega, by omega, by omega, by omega, by omega, by omega, by omega, by omega⟩
  have HN2 : Hid (bh ≠ b1 + 1 ∧ b1 + 1 ∉ F) := Lib.hid ⟨by have := hbl.1; omega, fun hx => by have := hbl.2 _ hx; omega⟩
  clear hk1 hk2 hs2 hcc hl7 hb1e hlt2 hb hbl HCA HQ0 HQ1 HQ2 HQ3 k0 HCE HB
  refine (wpIn_wide (n := 9) (P := Tryd.prog)).1 (wpIn_rangeFunc_find (F := Fence.wide) (n := 9) rfl (by omega) (gf := 52) (lb := #[.pointer (some ⟨b1, 0, none⟩), .pointer (some ⟨b1 + 1, 0, none⟩)]) rfl trivial (enters_of Tryd.func52 (by kernel_rfl) rfl) (encs := fun h : Int => #[.int .i64 h]) (xs := chainM hp 100001 o) (bo := b1 + 1) HN.out.2.2.2.2.1 ?seq (fun _ => rfl)
    (fun pre => ∀ y ∈ pre, (ownR hp key y).2 = false) (fun pre W => ∃ v, lookupR hp key (chainM hp 100001 o) = (v, true) ∧ W.heap[b6]? = some (.cells #[.int .i64 v.kind, .int .i64 v.int, .string v.str, .int .i64 v.ref] 36 (0, 0)) ∧ W.heap[b7]? = some (.cells #[.bool true] 4 (0, 0))) (fun k => k = b6 ∨ k = b7) ?hT ?hR (by simp) (fun y => { tmps := #[.pointer (some ⟨bh, 0, none⟩), .int .i64 o, .string key, .pointer (some ⟨b3, 0, none⟩), undef, .pointer (some ⟨b5, 0, none⟩), .pointer (some ⟨b6, 0, none⟩), .pointer (some ⟨b7, 0, none⟩), .int .i64 y, undef, undef, .pointer (some ⟨bh, 0, none⟩), .int .i64 o, .func (.func 52) #[] #[.pointer (some ⟨b1, 0, none⟩), .pointer (some ⟨b1 + 1, 0, none⟩)], .int .i64 y, undef, undef, undef, undef, undef, undef, undef, undef, undef, undef], defers := [] }) ?assign ?body ?done ?stop)
  case seq => exact chain1_find _ wc bh hp F b1 (b1 + 1) _ o HF.out HK1.out HK2.out (by omega) HN2.out.2 HN2.out.1 HIN.out HPR.out
  case hT => rintro k (rfl | rfl); exact HN.out.2.2.2.2.2.1; exact HN.out.2.2.2.2.2.2.1
  case hR => rintro pre A B ⟨v, h1, h2, h3⟩ hc; exact ⟨v, h1, hc.keep h2 (by have := HN.out; omega), hc.keep h3 (by have := HN.out; omega)⟩
  case assign =>
    intro l y W K hK
    have hsem := @Oper.semAt_some
    gi_wp2
    exact hK
  case body =>
    rintro l pre y W hpre hpx hcw
    have hq0 := hcw.keep HK0.out HN.out.1
    have hq5 := hcw.keep HK5.out HN.out.2.1
    have k3 := cell_of_block (i := 0) hq0 rfl
    have k5 := cell_of_block (i := 0) hq5 rfl
    simp only [List.getElem_toArray, List.getElem_cons_zero] at k3 k5
    have HC6 := Lib.hid (hcw.keep HK6.out HN.out.2.2.1)
    have HC7 := Lib.hid (hcw.keep HK7.out HN.out.2.2.2.1)
    have HWH : Hid (Here hpR W bh 0 hp F) := Lib.hid (HF.out.chg hcw HN2.out.1 (fun k hk e => HN2.out.2 (e ▸ hk)))
    have hown := HOW.out W y HWH.out (HCI.out y (hpx.subset (by simp)))
    have HPRE := Lib.hid hpre
    have HPX := Lib.hid hpx
    have h1n : 1 ≤ 9 - 1 - 1 := by omega
    clear hq0 hq5 hcw hpre hpx
    have hsem := @Oper.semAt_some
    obtain ⟨v, ok, hvo⟩ : ∃ v ok, ownR hp key y = (v, ok) := ⟨_, _, rfl⟩
    rw [hvo] at hown
    have HVO := Lib.hid hvo
    have HOWN := Lib.hid hown
    clear hown hvo
    cases ok with
    | false =>
      gi_wp2_with (first | (refine ⟨trivial, ?_⟩; gi_at_call 23; refine (CallsIn.inRound l (callsIn_wide.2 HOWN.out)).mono ?_; rintro e wa ⟨rfl, hca⟩))
      exact ⟨fun z hz => by
        rcases hz with hz | rfl
        · exact HPRE.out z hz
        · rw [HVO.out], hca.allocR _⟩
    | true =>
      have HLK := Lib.hid (lookup_of_stop HPX.out HPRE.out (by rw [HVO.out]))
      gi_wp2_with (first | (refine ⟨trivial, ?_⟩; gi_at_call 23; refine (CallsIn.inRound l (callsIn_wide.2 HOWN.out)).mono ?_; rintro e wa ⟨rfl, hca⟩; have HCA2 := Lib.hid (hca.allocR (.cells #[.int .i64 v.kind, .int .i64 v.int, .string v.str, .int .i64 v.ref] 36)); have hbx := alloc_block wa (.cells #[.int .i64 v.kind, .int .i64 v.int, .string v.str, .int .i64 v.ref] 36); have m0 := cell_of_block (i := 0) hbx rfl; have m1 := cell_of_block (i := 1) hbx rfl; have m2 := cell_of_block (i := 2) hbx rfl; have m3 := cell_of_block (i := 3) hbx rfl; simp only [List.getElem_toArray, List.getElem_cons_zero, List.getElem_cons_succ] at m0 m1 m2 m3; have hq6 := HCA2.out.keep HC6.out (fun x => x); have hq7 := HCA2.out.keep HC7.out (fun x => x); obtain ⟨z10, q0, z11, q1, z12, q2, z13, q3, hbf, hcs⟩ := store4 hq6 (.int .i64 v.kind) (.int .i64 v.int) (.string v.str) (.int .i64 v.ref); have hq7' := hcs.keep hq7 (show ¬ b7 = b6 by have := HN.out; omega); have k7 := cell_of_block (i := 0) hq7' rfl; have f7 := frozen_of_block (i := 0) hq7'; simp only [List.getElem_toArray, List.getElem_cons_zero] at k7; have HS7 := Lib.hid (setCell_block (i := 0) (.bool true) hq7'); have HS6 := Lib.hid ((Chg.setCell _ ⟨b7, 0, none⟩ (.bool true)).keep hbf (show ¬ b6 = b7 by have := HN.out; omega)); have HCS := Lib.hid hcs; clear hca hbx hq6 hq7 hq7' hbf hcs))
      refine ⟨⟨v, ?_, HS6.out, HS7.out⟩, ?_⟩
      · rw [HLK.out, HVO.out]
      · exact (HCA2.out.trans (HCS.out.trans (Chg.setCell _ ⟨b7, 0, none⟩ (.bool true)) (S'' := fun k => k = b6 ∨ k = b7) (fun _ _ x => .inl x) (fun _ _ x => .inr x)) (fun _ _ x => x.elim) (fun _ _ x => x))
  case done =>
    intro D W hD hi hcw hk
    have hn := HN.out
    have hlk := lookup_of_none hi
    have HLK := Lib.hid hlk
    have hq6 := hcw.keep HK6.out HN.out.2.2.1
    have hq7 := hcw.keep HK7.out HN.out.2.2.2.1
    obtain ⟨z10, q0, z11, q1, z12, q2, z13, q3, hbf, hcs⟩ := store4 hq6 (.int .i64 0) (.int .i64 0) (.string ⟨#[]⟩) (.int .i64 0)
    have hq7' := hcs.keep hq7 (show ¬ b7 = b6 by omega)
    have k7 := cell_of_block (i := 0) hq7' rfl
    have f7 := frozen_of_block (i := 0) hq7'
    simp only [List.getElem_toArray, List.getElem_cons_zero] at k7
    have HS7 := Lib.hid (setCell_block (i := 0) (.bool false) hq7')
    have HS6 := Lib.hid ((Chg.setCell _ ⟨b7, 0, none⟩ (.bool false)).keep hbf (show ¬ b6 = b7 by omega))
    have HCS := Lib.hid (hcs.trans (Chg.setCell _ ⟨b7, 0, none⟩ (.bool false)) (S'' := fun k => k = b6 ∨ k = b7) (fun _ _ x => .inl x) (fun _ _ x => .inr x))
    have HKD := Lib.hid (HCS.out.keep hk (show ¬ (D = b6 ∨ D = b7) by omega))
    have HDL := Lib.hid hD
    have HCWW := Lib.hid hcw
    clear hq6 hq7 hq7' hbf hcs hcw hk hi hD hlk hn
    dsimp only
    go_wp2_with fail
    rw [bodyM_eq]
    refine ⟨by simp, .inl ⟨_, _, rfl, run_takeDeferred HKD.out, ?_⟩⟩
    have hn := HN.out
    have hdl := HDL.out
    have hb6' := ((Chg.refl (fun k => k = D) _).putL D (.deferred none) (fun _ => rfl)).keep HS6.out (by omega)
    have hb7' := ((Chg.refl (fun k => k = D) _).putL D (.deferred none) (fun _ => rfl)).keep HS7.out (by omega)
    have k7' := cell_of_block (i := 0) hb7' rfl
    refine ⟨_, results_cell_cell rfl _ _ b6 b7 _ (.bool false) (by rfl) (by rfl) (run_loadVar_row _ b6 36 36 _ _ _ hb6' Tryd.underlying36 rfl (by kernel_rfl)) (run_loadVar1 _ _ _ 0 k7'), ?_⟩
    rw [HLK.out]
    refine ⟨rfl, ?_⟩
    exact (((HCC.out.trans HCWW.out (fun _ _ x => x) (fun i hi x => by omega)).trans HCS.out (fun _ _ x => x) (fun i hi x => by omega)).putL _ _ (fun h => by omega))
  case stop =>
    rintro D pre W hD ⟨v, hlk, hb6, hb7⟩ hcw hk
    have hn := HN.out
    gi_wp2
    rw [bodyM_eq]
    refine ⟨by simp, .inl ⟨_, _, rfl, run_takeDeferred hk, ?_⟩⟩
    have hb6' := ((Chg.refl (fun k => k = D) W).putL D (.deferred none) (fun _ => rfl)).keep hb6 (by omega)
    have hb7' := ((Chg.refl (fun k => k = D) W).putL D (.deferred none) (fun _ => rfl)).keep hb7 (by omega)
    have k7' := cell_of_block (i := 0) hb7' rfl
    refine ⟨_, results_cell_cell rfl _ _ b6 b7 _ (.bool true) (by rfl) (by rfl) (run_loadVar_row _ b6 36 36 _ _ _ hb6' Tryd.underlying36 rfl (by kernel_rfl)) (run_loadVar1 _ _ _ 0 k7'), ?_⟩
    rw [hlk]
    refine ⟨rfl, ?_⟩
    exact ((HCC.out.trans hcw (fun _ _ x => x) (fun i hi x => by omega)).putL _ _ (fun h => by omega))
end Go.Proofs.YtjianickjahdnaaDoor
