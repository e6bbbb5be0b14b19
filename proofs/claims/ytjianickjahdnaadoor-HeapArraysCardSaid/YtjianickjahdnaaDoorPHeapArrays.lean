/-
  HeapArrays: the card.
-/
import Derived.Test.YtjianickjahdnaaDoorPHeapArraysf
import Derived.Test.YtjianickjahdnaaDoorPHeapArraysg
import Derived.Test.YtjianickjahdnaaDoorPHeapArrayse
import Derived.Test.YtjianickjahdnaaDoorPHeapArraysh
import Derived.Test.YtjianickjahdnaaDoorPHeapArraysa
import Derived.Test.YtjianickjahdnaaDoorRows
import Derived.WalkKit
import Derived.ProofKit
import Derived.OpenShut
import Derived.ShutString
import Derived.ChangeOld
import Derived.Below
import Derived.Carry
import Derived.SizedLaws
import Derived.JoinedCond
import Derived.Deep.CondSized
import Derived.SliceStrings
import Derived.ChangeSlices
import Derived.MakeChecks
import Derived.Stop.LaidErr
import Derived.Lib.LaidTab
import Derived.Deep.DeepHandedRow
import Derived.SevenTiedAt
import Derived.Lay
import Derived.LaidMore
import Derived.Stop.Joined
import Derived.Test.YtjianickjahdnaaDoorCards
import Derived.Test.YtjianickjahdnaaDoorTie
namespace Go.Proofs.YtjianickjahdnaaDoor
open Go.RowKit
set_option linter.unusedVariables false
set_option linter.unusedSimpArgs false

def vF (x : Int) : Val := if 0 < x then ⟨3, x, ⟨#[]⟩, 0⟩ else zeroV
def arrL (f : Nat → Int) (n : Nat) : List Val := (List.range n).map (fun j => vF (f j))
def updF (f : Nat → Int) (j : Nat) (v : Int) : Nat → Int := fun q => if q = j then v else f q
theorem arrL_len (f : Nat → Int) (n : Nat) : (arrL f n).length = n := by simp [arrL]
theorem arrL_get (f : Nat → Int) (n j : Nat) (h : j < n) {hh : j < (arrL f n).length} : (arrL f n)[j] = vF (f j) := by simp [arrL]
theorem arrL_set {f : Nat → Int} {n j : Nat} (h : j < n) {v : Int} (hv : 0 < v) : (arrL f n).set j ⟨3, v, ⟨#[]⟩, 0⟩ = arrL (updF f j v) n := by
  apply List.ext_getElem
  · rw [List.length_set, arrL_len, arrL_len]
  · intro q h1 h2
    rw [arrL_len] at h2
    rw [List.getElem_set, arrL_get (updF f j v) n q h2]
    by_cases e : j = q
    · rw [if_pos e]
      have : updF f j v q = v := if_pos e.symm
      rw [this]; unfold vF; rw [if_pos hv]
    · rw [if_neg e, arrL_get f n q h2]
      have : updF f j v q = f q := if_neg (Ne.symm e)
      rw [this]
theorem arrL_resize {f : Nat → Int} {n : Nat} (hz : ∀ q, n ≤ q → f q = 0) (m : Nat) : resizeL (arrL f n) m = arrL f m := by
  have hl := resizeL_len (arrL f n) m
  unfold resizeL at hl ⊢
  apply List.ext_getElem
  · rw [hl, arrL_len]
  · intro q h1 h2
    rw [arrL_len] at h2
    rw [arrL_get f m q h2, List.getElem_append]
    split
    · rename_i h
      rw [List.length_take, arrL_len] at h
      rw [List.getElem_take, arrL_get _ _ _ (by omega)]
    · rename_i h
      rw [List.length_take, arrL_len] at h
      rw [List.getElem_replicate, hz q (by omega)]
      rfl
theorem updF_zero {f : Nat → Int} {n : Nat} (hz : ∀ q, n ≤ q → f q = 0) (j : Nat) (v : Int) : ∀ q, max n (j + 1) ≤ q → updF f j v q = 0 := fun q hq => by
  unfold updF
  rw [if_neg (by omega)]
  exact hz q (by omega)
theorem keysK : (List.range 256).all (fun j => posM (itoaB (j : Int)) == (j : Int) && !((Lib.itoa (j : Int)) == [108, 101, 110, 103, 116, 104]) && decide ((Lib.itoa (j : Int)).length ≤ 100)) = true := by kernel_rfl
theorem keyK {j : Nat} (hj : j < 256) : posM (itoaB (j : Int)) = (j : Int) ∧ ¬ (itoaB (j : Int)).toList = [108, 101, 110, 103, 116, 104] ∧ (itoaB (j : Int)).size ≤ 100 := by
  have h := List.all_eq_true.1 keysK j (List.mem_range.2 hj)
  simp only [Bool.and_eq_true, beq_iff_eq, Bool.not_eq_true', beq_eq_false_iff_ne, ne_eq, decide_eq_true_eq] at h
  refine ⟨h.1.1, ?_, ?_⟩
  · rw [ByteArray.toList_eq]
    exact h.1.2
  · show (Lib.itoa (j : Int)).toArray.size ≤ 100
    rw [List.size_toArray]
    exact h.2
/-- A heap whose object 12 is an array with these elements. -/
structure OAr (hp : Hp) (es : List Val) : Prop where
  slot : slotOf hp 13 = some 12
  obj : ∃ hl : 12 < hp.slots.length, hp.slots[12].obj.kind = 1 ∧ hp.slots[12].obj.elems = es ∧ hp.slots[12].obj.props = []
theorem OAr.put {hp : Hp} {es : List Val} (h : OAr hp es) (hl : 12 < hp.slots.length) (es2 : List Val) : OAr (putO hp 12 { hp.slots[12].obj with elems := es2 }) es2 := by
  obtain ⟨h1, hl, h2, h3, h4⟩ := h
  have hl' : 12 < (putO hp 12 { hp.slots[12].obj with elems := es2 }).slots.length := by show 12 < (hp.slots.set _ _).length; rw [List.length_set]; exact hl
  have e : (putO hp 12 { hp.slots[12].obj with elems := es2 }).slots[12].obj = { hp.slots[12].obj with elems := es2 } := by
    have g := putO_gt hl { hp.slots[12].obj with elems := es2 } 12
    rw [if_pos rfl, gD_get hl'] at g
    rw [g]
  refine ⟨by rw [slotOf_put]; exact h1, hl', ?_, ?_, ?_⟩
  · rw [e]; exact h2
  · rw [e]
  · rw [e]; exact h4
theorem OAr.begin : OAr (addedM (newM 0 0) ⟨true, newObj 1 ((newM 0 0).protos.getD 1 0)⟩) [] := by
  refine ⟨by kernel_rfl, ⟨of_decide_eq_true (by kernel_rfl), by kernel_rfl, by kernel_rfl, by kernel_rfl⟩⟩
theorem putArr {hp : Hp} {f : Nat → Int} {n : Nat} (h : OAr hp (arrL f n)) (hn : n ≤ 256) (hz : ∀ q, n ≤ q → f q = 0) {j : Nat} (hj : j < 256) {v : Int} (hv : 0 < v) : ∃ hp2, OAr hp2 (arrL (updF f j v) (max n (j + 1))) ∧
    ∀ W b F, Here hpR W b 0 hp F → Tabs W → Calls Tryd.prog 24 #[.pointer (some ⟨b, 0, none⟩), .int .i64 13, .string (itoaB (j : Int)), .agg #[.int .i64 3, .int .i64 v, .string ⟨#[]⟩, .int .i64 0]] W fun e w' => e = .returned (.int .i64 0) ∧ Post hpR W b 0 hp2 F w' := by
  obtain ⟨k1, k2, k3⟩ := keyK hj
  have h0 := h
  obtain ⟨h1, hl, h2, h3, h4⟩ := h
  have hln : hp.slots[12].obj.elems.length = n := by rw [h3, arrL_len]
  by_cases hc : j < n
  · refine ⟨_, ?_, fun W b F H HT => put_elem W b hp F 13 12 (itoaB (j : Int)) ⟨3, v, ⟨#[]⟩, 0⟩ ⟨3, v, ⟨#[]⟩, 0⟩ H (by omega) h1 hl h2 (by omega) (fun W _ => normal_int v W) k2 (by omega) HT j k1 (by omega)⟩
    have := h0.put hl (arrL (updF f j v) (max n (j + 1)))
    rw [h3, show max n (j + 1) = n by omega, arrL_set hc hv]
    rw [show max n (j + 1) = n by omega] at this
    exact this
  · refine ⟨_, ?_, fun W b F H HT => put_grow W b hp F 13 12 (itoaB (j : Int)) ⟨3, v, ⟨#[]⟩, 0⟩ ⟨3, v, ⟨#[]⟩, 0⟩ H (by omega) h1 hl h2 (by omega) (fun W _ => normal_int v W) k2 (by omega) HT j k1 (by omega) (by omega)⟩
    have := h0.put hl (arrL (updF f j v) (max n (j + 1)))
    rw [h3, arrL_resize hz, arrL_set (by omega) hv]
    rw [show max n (j + 1) = j + 1 by omega] at this ⊢
    exact this
theorem putLen {hp : Hp} {f : Nat → Int} {n : Nat} (h : OAr hp (arrL f n)) (hn : n ≤ 256) (hz : ∀ q, n ≤ q → f q = 0) {m : Nat} (hm : m ≤ 256) : ∃ hp2, OAr hp2 (arrL f m) ∧
    ∀ W b F, Here hpR W b 0 hp F → Calls Tryd.prog 24 #[.pointer (some ⟨b, 0, none⟩), .int .i64 13, .string ⟨#[108, 101, 110, 103, 116, 104]⟩, .agg #[.int .i64 3, .int .i64 (m : Int), .string ⟨#[]⟩, .int .i64 0]] W fun e w' => e = .returned (.int .i64 0) ∧ Post hpR W b 0 hp2 F w' := by
  have h0 := h
  obtain ⟨h1, hl, h2, h3, h4⟩ := h
  have hln : hp.slots[12].obj.elems.length = n := by rw [h3, arrL_len]
  refine ⟨_, ?_, fun W b F H => put_len W b hp F 13 12 ⟨3, (m : Int), ⟨#[]⟩, 0⟩ ⟨3, (m : Int), ⟨#[]⟩, 0⟩ H (by omega) h1 hl h2 (by omega) (fun W _ => normal_int (m : Int) W) m ⟨rfl, rfl⟩ (by omega)⟩
  rw [h3, arrL_resize hz]
  exact h0.put hl _
theorem ownIn {hp : Hp} {f : Nat → Int} {m : Nat} (h : OAr hp (arrL f m)) (hm : m ≤ 256) {j : Nat} (hj : j < 256) (hjm : j < m) (W : World) (b : Nat) (F : List Nat) (H : Here hpR W b 0 hp F) (HT : Tabs W) :
    Calls Tryd.prog 23 #[.pointer (some ⟨b, 0, none⟩), .int .i64 13, .string (itoaB (j : Int))] W fun e w' => e = .returned (.tuple #[.agg #[.int .i64 (vF (f j)).kind, .int .i64 (vF (f j)).int, .string (vF (f j)).str, .int .i64 (vF (f j)).ref], .bool true]) ∧ Chg (fun _ => False) W w' := by
  obtain ⟨k1, k2, k3⟩ := keyK hj
  obtain ⟨h1, hl, h2, h3, h4⟩ := h
  have hln : hp.slots[12].obj.elems.length = m := by rw [h3, arrL_len]
  have := own_elem W b hp F 13 12 (itoaB (j : Int)) H (by omega) h1 hl h2 k2 (by omega) HT j (by omega) (by omega) k1
  have e : hp.slots[12].obj.elems[j]'(by omega) = vF (f j) := by
    have g : ∀ (l : List Val) (hl : j < l.length), l = arrL f m → l[j] = vF (f j) := fun l hl e => by subst e; exact arrL_get _ _ _ hjm
    exact g _ _ h3
  rw [e] at this
  exact this
theorem ownOut {hp : Hp} {f : Nat → Int} {m : Nat} (h : OAr hp (arrL f m)) (hm : m ≤ 256) {j : Nat} (hj : j < 256) (hjm : ¬ j < m) (W : World) (b : Nat) (F : List Nat) (H : Here hpR W b 0 hp F) (HT : Tabs W) :
    Calls Tryd.prog 23 #[.pointer (some ⟨b, 0, none⟩), .int .i64 13, .string (itoaB (j : Int))] W fun e w' => e = .returned (.tuple #[.agg #[.int .i64 0, .int .i64 0, .string ⟨#[]⟩, .int .i64 0], .bool false]) ∧ Chg (fun _ => False) W w' := by
  obtain ⟨k1, k2, k3⟩ := keyK hj
  obtain ⟨h1, hl, h2, h3, h4⟩ := h
  have hln : hp.slots[12].obj.elems.length = m := by rw [h3, arrL_len]
  exact own_beyond W b hp F 13 12 (itoaB (j : Int)) H (by omega) h1 hl h2 k2 (by omega) HT j (by omega) (by omega) k1
end Go.Proofs.YtjianickjahdnaaDoor
namespace Go.Proofs.YtjianickjahdnaaDoor
open Go.RowKit
set_option linter.unusedVariables false
set_option linter.unusedSimpArgs false

/-- A block with 256 numbers. -/
def ArrAt (W : World) (b8 : Nat) (f : Nat → Int) : Prop := ∃ cs : Array Value, W.heap[b8]? = some (.cells cs 69 (0, 0)) ∧ cs.size = 256 ∧ ∀ j, j < 256 → cs[j]? = some (.int .i64 (f j))
section
variable {w W W' : World} {b8 : Nat} {f : Nat → Int}
theorem ArrAt.cell (h : ArrAt W b8 f) {j : Nat} (hj : j < 256) : W.cell? ⟨b8, j, none⟩ = some (.int .i64 (f j)) := by
  obtain ⟨cs, h1, h2, h3⟩ := h
  exact cell_of_block h1 (h3 j hj)
theorem ArrAt.froz (h : ArrAt W b8 f) (j : Nat) : W.frozen? ⟨b8, j, none⟩ = false := by
  obtain ⟨cs, h1, h2, h3⟩ := h
  exact frozen_of_block h1
theorem ArrAt.lt (h : ArrAt W b8 f) : b8 < W.heap.size := by
  obtain ⟨cs, h1, h2, h3⟩ := h
  exact (Array.getElem?_eq_some_iff.1 h1).1
theorem ArrAt.chg {S : Nat → Prop} (h : ArrAt W b8 f) (hc : Chg S W W') (hn : ¬ S b8) : ArrAt W' b8 f := by
  obtain ⟨cs, h1, h2, h3⟩ := h
  exact ⟨cs, hc.keep h1 hn, h2, h3⟩
theorem ArrAt.set (h : ArrAt W b8 f) {j : Nat} (hj : j < 256) (v : Int) : ArrAt (W.setCell ⟨b8, j, none⟩ (.int .i64 v)) b8 (updF f j v) := by
  obtain ⟨cs, h1, h2, h3⟩ := h
  refine ⟨_, setCell_block (i := j) (.int .i64 v) h1, by simp [h2], fun q hq => ?_⟩
  unfold updF
  rw [Array.getElem?_setIfInBounds]
  by_cases e : j = q
  · subst e
    rw [if_pos rfl, if_pos rfl, if_pos (by omega)]
  · rw [if_neg e, if_neg (Ne.symm e)]
    exact h3 q hq
/-- The heap and the array, both made behind w. -/
structure HB (w W : World) (bh b8 : Nat) (hp : Hp) (f : Nat → Int) (F : List Nat) : Prop where
  heap : Own hpR w W bh 0 hp F
  arr : ArrAt W b8 f
  lo : w.heap.size ≤ b8
  d : b8 ∉ bh :: F
variable {bh : Nat} {hp hp' : Hp} {F : List Nat}
theorem HB.still (h : HB w W bh b8 hp f F) (hc : Chg (fun _ => False) W W') : HB w W' bh b8 hp f F := ⟨h.heap.still hc, h.arr.chg hc (fun x => x), h.lo, h.d⟩
theorem HB.heapS (h : HB w W bh b8 hp f F) (hp1 : Post hpR W bh 0 hp' F W') : ∃ F', HB w W' bh b8 hp' f F' := by
  obtain ⟨F', h1, h2⟩ := hp1
  refine ⟨F', h.heap.step h1 h2, h.arr.chg h2.chg (fun x => h.d (x.elim (fun e => e ▸ List.mem_cons_self ..) (List.mem_cons_of_mem _))), h.lo, fun x => ?_⟩
  rcases List.mem_cons.1 x with e | x
  · exact h.d (e ▸ List.mem_cons_self ..)
  · rcases h2.new _ x with y | y
    · exact h.d (List.mem_cons_of_mem _ y)
    · have := h.arr.lt; omega
theorem HB.set (h : HB w W bh b8 hp f F) {j : Nat} (hj : j < 256) (v : Int) : HB w (W.setCell ⟨b8, j, none⟩ (.int .i64 v)) bh b8 hp (updF f j v) F := by
  have hc : Chg (fun k => k = b8) W (W.setCell ⟨b8, j, none⟩ (.int .i64 v)) := Chg.setCell W ⟨b8, j, none⟩ (.int .i64 v)
  refine ⟨h.heap.beside hc (fun k hk x => h.d (x ▸ hk)) (fun k x => by subst x; exact h.lo), h.arr.set hj v, h.lo, h.d⟩
end
theorem zeroArr : (Tryd.zeroCells69 : Array Value).toList = List.replicate 256 (.int .i64 0) := by kernel_rfl
theorem ArrAt.begin (W : World) : ArrAt (W.alloc (.cells Tryd.zeroCells69 69)) W.heap.size (fun _ => 0) := by
  refine ⟨_, alloc_block W _, ?_, fun j hj => ?_⟩
  · rw [← Array.length_toList, zeroArr, List.length_replicate]
  · rw [← Array.getElem?_toList, zeroArr, List.getElem?_replicate, if_pos hj]
end Go.Proofs.YtjianickjahdnaaDoor
namespace Go.Proofs.YtjianickjahdnaaDoor
open Go.RowKit
set_option linter.unusedVariables false
set_option linter.unusedSimpArgs false

theorem itoa_any (v : Int) (w : World) (h0 : -9223372036854775808 ≤ v ∧ v ≤ 9223372036854775807) (HT : Tabs w) :
    Calls Tryd.prog 46 #[.int .i64 v] w fun e w' => e = .returned (.string ⟨(Lib.itoa v).toArray⟩) ∧ Chg (fun _ => False) w w' :=
  (sh_strconv_Itoa v h0.1 h0.2 w HT.pow).mono fun e w' ⟨he, k, os, hw⟩ => ⟨he, by rw [hw]; exact chg_grow w k os⟩
set_option maxHeartbeats 6400000 in
set_option maxRecDepth 100000 in
theorem keys_arr (w : World) (b : Nat) (hp : Hp) (F : List Nat) (h : Int) (i : Nat) (H : Here hpR w b 0 hp F) (hi : -9223372036854775808 ≤ h ∧ h ≤ 9223372036854775807) (hs : slotOf hp h = some i) (hl : i < hp.slots.length) (hk : hp.slots[i].obj.kind = 1) (hle : hp.slots[i].obj.elems.length ≤ 20000) (hps : hp.slots[i].obj.props = []) (HT : Tabs w) :
    Calls Tryd.prog 27 #[.pointer (some ⟨b, 0, none⟩), .int .i64 h] w fun e w' => ∃ v' L, e = .returned v' ∧ OutS w w' v' L ∧ L.length = hp.slots[i].obj.elems.length := by
  obtain ⟨gh, oh, kh, c2, G, HOBJ0, hGF, hput⟩ := hpPut H hl
  obtain ⟨vp, ve, vd, vs, HOC⟩ := objOpen HOBJ0
  have z1 : (hp.slots[i].obj.kind == 1) = true := by simpa using hk
  have hat := hat_any _ b 0 hp F h _ H (by rw [Nat.zero_add]; exact c2) hi
  rw [hs, show objPtr (.slice (some ⟨gh, oh, none⟩) hp.slots.length kh) (some i) = some ⟨gh, oh + i * 11 + 1, none⟩ from rfl] at hat
  have HAT := Lib.hid hat
  have HC0 := Lib.hid HOC.c0
  have HC2 := Lib.hid HOC.c2
  have HC3 := Lib.hid HOC.c3
  have hr := HOC.rp
  have hre := HOC.re
  have HTT := Lib.hid HT
  generalize hp.slots[i].obj = x at *
  obtain ⟨ad, cap, rfl, -, -⟩ := hr.slice
  obtain ⟨ae, cape, rfl, -, -⟩ := hre.slice
  have hpl : x.props.length = 0 := by rw [hps]; rfl
  rw [hpl] at HC2
  generalize hnn : x.elems.length = n at *
  have HL := Lib.hid hle
  have HN2 := Lib.hid hnn
  have hln : (n : Int) ≤ 9223372036854775807 := by omega
  have hk1 := hk
  rw [hk] at HC0
  clear HOBJ0 hGF hput HOC c2 hi hs H hk hk1 hat hr hre hle HT hps hpl z1 hnn
  go_enter Tryd.func27, Tryd.ntmps27
  go_upto_region 4 with (go_at_call 35; refine HAT.out.mono ?_; rintro e wa ⟨rfl, hca⟩)
  have HC1 := Lib.hid hca
  have c0 := HC1.out.cell HC0.out
  have c2 := HC1.out.cell HC2.out
  have c3 := HC1.out.cell HC3.out
  clear hca HAT
  go_upto_region 7 with fail
  go_loopw [6, 7, 25] (fun u6 _ u25 wr => ∃ (k : Nat) (a : Option Addr) (nn c : Nat) (L : List ByteArray), k ≤ n ∧ u25 = .int .i64 k ∧ u6 = .slice a nn c ∧ L.length = k ∧ Hid (OutS wa wr (.slice a nn c) L)) (fun _ _ u _ => n - (intOf u).toNat)
  case atStart => exact ⟨0, none, 0, 0, [], by omega, rfl, rfl, rfl, Lib.hid (OutS.nil wa)⟩
  case round =>
    obtain ⟨k, a, nn, c, L, hk, rfl, rfl, hLk, HO⟩ := hrel
    by_cases hlt : k < n
    · have h0 : (0 : Int) ≤ (k : Int) := by omega
      have h1 : (k : Int) < (n : Int) := by omega
      have w64 : IntKind.i64.wrap ((k : Int) + 1) = ((k + 1 : Nat) : Int) := IntWalk.i64_in _ (by omega)
      have HLT := Lib.hid hlt
      have HLK := Lib.hid hLk
      have HIT := Lib.hid (itoa_any (k : Int) wr (by omega) (HTT.out.still (HC1.out.trans' HO.out.chg)))
      have HFW : Hid (Few (L.length + 1)) := Lib.hid (⟨by have := HL.out; omega⟩ : Few _)
      clear hk hLk hlt
      go_upto_region 10 with (first
        | (go_at_call 46; refine HIT.out.mono ?_; rintro e wi ⟨rfl, hci⟩; have HO1 := Lib.hid ((HO.out.still hci).alloc (.cells #[.string ⟨(Lib.itoa (k : Int)).toArray⟩] 9)); clear hci)
        | (at_builtin; refine wpList_outS rfl (.tmp 28) (.tmp 31) rfl _ L rfl HO1.out _ [⟨(Lib.itoa (k : Int)).toArray⟩] rfl (RowAt.lit [.string ⟨(Lib.itoa (k : Int)).toArray⟩] rfl (by simp [maxLen])) HFW.out ?_; intro a2 n2 c2 w2 HO2 hch2 _))
      go_wp2_with fail
      go_roundw
      case rel => exact ⟨k + 1, a2, n2, c2, _, HLT.out, rfl, rfl, by rw [List.length_append, HLK.out]; rfl, Lib.hid HO2⟩
      case measure => have := HLT.out; simp [intOf, w64]; omega
    · have hk2 : k = n := by omega
      subst hk2
      have HLK := Lib.hid hLk
      have c2' := (HC1.out.trans' HO.out.chg).cell HC2.out
      clear hlt hk hLk c2
      go_upto_region 12 with fail
      obtain ⟨we, rfl⟩ : ∃ we : World, we = wr := ⟨_, rfl⟩
      go_wp2_with fail
      go_loopw [6, 39] (fun u6 u39 wr2 => u6 = .slice a nn c ∧ u39 = .int .i64 0 ∧ wr2 = we) (fun _ _ _ => 0)
      case atStart => exact ⟨rfl, rfl, rfl⟩
      case round =>
        obtain ⟨rfl, rfl, rfl⟩ := hrel
        go_wp2_with fail
        go_ret
        exact ⟨_, L, rfl, HO.out.from HC1.out, HLK.out⟩
end Go.Proofs.YtjianickjahdnaaDoor
namespace Go.Proofs.YtjianickjahdnaaDoor
set_option linter.unusedVariables false
open Go.ChangeShapes Go.WideShapes Go.ChangeAt Go.RowKit

theorem Tryd.own : ownKnob Tryd.prog.godebug = none := by kernel_rfl
theorem Tryd.laidOut : laidOutB Tryd.prog = true := by kernel_rfl
/-- Each type can be read and is a row of the table. -/
def rowed (P : Program) (ts : List TypeId) : Bool := ts.all fun t => P.readableRec t && decide (t < P.types.size)

theorem trodAll_below {H : Type} {enc : TypeId × Value → H} {P : Program} (hl : laidOutB P = true) {W W' : World} (hb : Below W.heap.size W W') :
    ∀ {ts : List TypeId} {vs : List Value} {ds : List (DataW H)} {ps : List MemPlace}, rowed P ts = true → DataW.TrodAll enc P W 0 (fun _ => true) true ts vs ds ps → (∀ x ∈ ps, x.block < W.heap.size) →
      DataW.TrodAll enc P W' 0 (fun b => decide (b < W.heap.size)) true ts vs ds ps
  | [], [], [], _, _, h, _ => h
  | t :: ts, v :: vs, d :: ds, ps, hr, ⟨p, q, h1, h2, e⟩, hlt => by
    simp only [rowed, List.all_cons, Bool.and_eq_true, decide_eq_true_eq] at hr
    exact ⟨p, q, Below.trod hl hr.1.1 hr.1.2 h1 hb (fun x hx => hlt x (by rw [e]; exact List.mem_append_left _ hx)),
      trodAll_below hl hb (by simpa [rowed] using hr.2) h2 (fun x hx => hlt x (by rw [e]; exact List.mem_append_right _ hx)), e⟩
  | [], [], _ :: _, _, _, h, _ => h.elim
  | [], _ :: _, _, _, _, h, _ => h.elim
  | _ :: _, [], _, _, _, h, _ => h.elim
  | _ :: _, _ :: _, [], _, _, h, _ => h.elim

theorem law_post {P : Program} {H : Type} {enc : TypeId × Value → H} {f : Func} {s : ChangeSpec} {W W' : World} {args : Array Value} {ds gs : List (DataW H)} {before : List MemPlace} {tb : TypeId}
    (hl : laidOutB P = true) (hts : rowed P f.params.toList = true) (hres : f.resultTypes = #[tb]) (hbool : P.underlying tb = some .bool) (hvars : s.vars = [])
    (hW : DataW.Whole enc P f.params.toList s.vars false W args.toList ds gs before) (hfn : s.fn H (ds ++ gs) = { results := [.lit (.bool true)], args := ds })
    (hb : Below W.heap.size W W') : s.post enc P f false true false false W args (.bool true) W' := by
  have hW' := hW
  have hlt : ∀ x ∈ before, x.block < W.heap.size := fun x hx => hW.lt x hx
  obtain ⟨p, q, hA, hV, rfl, hfz, hnd⟩ := hW
  refine ⟨ds, gs, p ++ q, [], p, [], hW', ?_, ?_, ?_, hb.frame _, fun h => by cases h⟩
  · rw [hfn, hres]; exact trodAll_mk1 (shut_bool hbool _)
  · rw [hfn]; exact trodAll_below hl hb hts hA (fun x hx => hlt x (List.mem_append_left _ hx))
  · rw [hfn, hvars]; rfl

/-- A law's contract lifted to its row. -/
theorem law_lift {C : Checked} {os : Os} {f : FuncId} {fn : Func} {s : ChangeSpec} {H : Type} {enc : TypeId × Value → H} {tb : TypeId} (started : os.Started)
    (own : ownKnob C.prog.godebug = none) (hl : laidOutB C.prog = true) (noInit : C.prog.inits.idxOf? f = none) (hfn : C.prog.funcs[f]? = some fn) (hts : rowed C.prog fn.params.toList = true) (hres : fn.resultTypes = #[tb]) (hbool : C.prog.underlying tb = some .bool) (hvars : s.vars = [])
    (hargs : ∀ ds : List (DataW H), ds.length = fn.params.toList.length → s.fn H ds = { results := [.lit (.bool true)], args := ds })
    (witness : ∃ (w : World) (tape : Tape) (i : Input), w.os = os ∧ (w.forCall tape i).Shaped C.prog ∧ i.vars = [] ∧ Input.okWide C.prog (w.forCall tape i) .any w.heap.size f i ∧
      s.pre6 enc C.prog fn [] false (w.forCall tape i).memory i.args ∧ Assume.holds {} C.prog (lone (Frame.enter C.prog f i.args .normal) [] (w.forCall tape i)))
    (core : ∀ (W : World) (base : Nat) (vs : List Value) (ds : List (DataW H)) (ps : List MemPlace), (∀ (j : Nat) t v, fn.params.toList[j]? = some t → vs[j]? = some v → Value.okWide C.prog W .any base t v) →
      DataW.TrodAll enc C.prog W 0 (fun _ => true) true fn.params.toList vs ds ps → (DataW.weightsEach C.prog fn.params.toList ds).all (· ≤ reachBytes) = true →
      Calls C.prog f vs.toArray W fun e W' => e = .returned (.bool true) ∧ Below W.heap.size W W') :
    ReturnsInHanded {} C os f .any (s.pre6 enc C.prog fn [] false) (s.post enc C.prog fn false true false false) := by
  refine returnsInHanded_of_change_sized (C := C) own started noInit hfn witness ?_
  intro W base args ds gs before hval hW _ hsz _
  have hW' := hW
  obtain ⟨p, q, hA, hV, rfl, hfz, hnd⟩ := hW
  rw [hvars] at hV
  obtain ⟨rfl, rfl⟩ := trodVars_none hV
  simp only [List.append_nil] at hsz
  have hlen : ds.length = fn.params.toList.length := by
    have : ∀ (ts : List TypeId) (vs : List Value) (ds : List (DataW H)) (ps : List MemPlace), DataW.TrodAll enc C.prog W 0 (fun _ => true) true ts vs ds ps → ds.length = ts.length := by
      intro ts
      induction ts with
      | nil => intro vs ds ps h; cases vs <;> cases ds <;> first | rfl | exact h.elim
      | cons t ts ih => intro vs ds ps h; cases vs <;> cases ds <;> first | exact h.elim | (obtain ⟨_, _, _, h2, _⟩ := h; simp [ih _ _ _ h2])
    exact this _ _ _ _ hA
  have hvt : s.plain.varTypes C.prog = [] := by simp [DataSpec.varTypes, ChangeSpec.plain, hvars]
  rw [hvt, List.append_nil] at hsz
  have := core W base args.toList ds p (fun j t v h1 h2 => hval j t v (by simpa using h1) (by simpa using h2)) hA hsz
  rw [Array.toArray_toList] at this
  refine this.mono fun e W' ⟨he, hb⟩ => ⟨_, he, law_post hl hts hres hbool hvars hW' (by rw [List.append_nil]; exact hargs ds hlen) hb⟩

/-- A law's contract lifted to its second row (bulk at most 1048576). -/
theorem law_lift_upto {C : Checked} {os : Os} {f : FuncId} {fn : Func} {s : ChangeSpec} {H : Type} {enc : TypeId × Value → H} {tb : TypeId} {F : Stop.Interp} (started : os.Started)
    (own : ownKnob C.prog.godebug = none) (hl : laidOutB C.prog = true) (noInit : C.prog.inits.idxOf? f = none) (hfn : C.prog.funcs[f]? = some fn) (hts : rowed C.prog fn.params.toList = true) (hres : fn.resultTypes = #[tb]) (hbool : C.prog.underlying tb = some .bool) (hvars : s.vars = [])
    (hargs : ∀ ds : List (DataW H), ds.length = fn.params.toList.length → s.fn H ds = { results := [.lit (.bool true)], args := ds })
    (witness : ∃ (w : World) (tape : Tape) (i : Input), w.os = os ∧ (w.forCall tape i).Shaped C.prog ∧ i.vars = [] ∧ Input.okWide C.prog (w.forCall tape i) .any w.heap.size f i ∧
      (Rows.OpenSpec.upto s).pre6 enc C.prog fn [] false (w.forCall tape i).memory i.args ∧ Assume.holds {} C.prog (lone (Frame.enter C.prog f i.args .normal) [] (w.forCall tape i)))
    (core : ∀ (W : World) (base : Nat) (vs : List Value) (ds : List (DataW H)) (ps : List MemPlace), (∀ (j : Nat) t v, fn.params.toList[j]? = some t → vs[j]? = some v → Value.okWide C.prog W .any base t v) →
      DataW.TrodAll enc C.prog W 0 (fun _ => true) true fn.params.toList vs ds ps → Rows.uptoBulkAll ds ≤ 1048576 →
      Calls C.prog f vs.toArray W fun e W' => e = .returned (.bool true) ∧ Below W.heap.size W W') :
    ReturnsInHanded {} C os f .any ((Rows.OpenSpec.upto s).pre6 enc C.prog fn [] false) (((Rows.OpenSpec.upto s).at F).post enc C.prog fn false true false false) := by
  refine returnsInHanded_of_cond (C := C) (s := Rows.OpenSpec.upto s) (k := Rows.uptoSmall) rfl own started noInit hfn witness ?_
  intro W base args ds gs before hval hW _ hk _
  have hW' : DataW.Whole enc C.prog fn.params.toList s.vars false W args.toList ds gs before := hW
  obtain ⟨p, q, hA, hV, rfl, hfz, hnd⟩ := hW'
  have hV' : DataW.TrodVars enc C.prog W (fun _ => true) s.vars gs q := hV
  rw [hvars] at hV'
  obtain ⟨rfl, rfl⟩ := trodVars_none hV'
  simp only [List.append_nil] at hk
  have hlen : ds.length = fn.params.toList.length := by
    have : ∀ (ts : List TypeId) (vs : List Value) (ds : List (DataW H)) (ps : List MemPlace), DataW.TrodAll enc C.prog W 0 (fun _ => true) true ts vs ds ps → ds.length = ts.length := by
      intro ts
      induction ts with
      | nil => intro vs ds ps h; cases vs <;> cases ds <;> first | rfl | exact h.elim
      | cons t ts ih => intro vs ds ps h; cases vs <;> cases ds <;> first | exact h.elim | (obtain ⟨_, _, _, h2, _⟩ := h; simp [ih _ _ _ h2])
    exact this _ _ _ _ hA
  have := core W base args.toList ds p (fun j t v h1 h2 => hval j t v (by simpa using h1) (by simpa using h2)) hA (of_decide_eq_true hk)
  rw [Array.toArray_toList] at this
  refine this.mono fun e W' ⟨he, hb⟩ => ⟨_, he, ?_⟩
  exact (law_post (s := s) hl hts hres hbool hvars hW (by rw [List.append_nil]; exact hargs ds hlen) hb)
end Go.Proofs.YtjianickjahdnaaDoor
namespace Go.Proofs.YtjianickjahdnaaDoor
open Go.ChangeShapes Go.WideShapes Go.ChangeAt Go.RowKit
set_option linter.unusedVariables false

/-- A slice that came in: its elements (one cell each) are xs. -/
def ArgRow (w : World) (v : Value) (xs : List Value) : Prop :=
  ∃ a cap, v = .slice a xs.length cap ∧ xs.length ≤ cap ∧ cap ≤ maxLen ∧ (xs ≠ [] → ∃ g off, a = some ⟨g, off, none⟩ ∧ g < w.heap.size ∧ ∀ j u, xs[j]? = some u → w.cell? ⟨g, off + j, none⟩ = some u)
theorem int_of_wf {k : IntKind} {n : Int} (h : (Lit.int k n).wf = true) : k.min ≤ n ∧ n ≤ k.max := by simpa [Lit.wf] using h

section
variable {H : Type} {enc : TypeId × Value → H} {P : Program} {w : World} {base : Nat}
theorem addr_none {w : World} {a : Addr} {v : Value} (h : w.cell? (a.add 0) = some v) : ∃ g off, a = ⟨g, off, none⟩ := by
  obtain ⟨g, off, spot⟩ := a
  have hs : spot = none := by simpa [Addr.add] using World.cell?_spot h
  exact ⟨g, off, by rw [hs]⟩
theorem add_none (g off j : Nat) : (⟨g, off, none⟩ : Addr).add j = ⟨g, off + j, none⟩ := by unfold Addr.add; split <;> simp_all
theorem argRow_of {a : Addr} {len cap : Nat} (xs : List Value) (hl : len ≤ cap) (hc : cap ≤ maxLen) (hx : cap ≤ xs.length) (h : ∀ i u, xs[i]? = some u → w.cell? (a.add i) = some u) : ArgRow w (.slice (some a) len cap) (xs.take len) := by
  have hlen : (xs.take len).length = len := by simp; omega
  refine ⟨some a, cap, by rw [hlen], by omega, hc, fun hne => ?_⟩
  have h0 : 0 < len := by
    apply Nat.pos_of_ne_zero
    rintro rfl
    simp at hne
  have h1 : 0 < xs.length := by omega
  obtain ⟨g, off, rfl⟩ := addr_none (h 0 xs[0] (List.getElem?_eq_getElem h1))
  refine ⟨g, off, rfl, ?_, ?_⟩
  · have := World.block_lt_of_cell? w _ (h 0 xs[0] (List.getElem?_eq_getElem h1))
    simpa [add_none] using this
  · intro j u hu
    rw [List.getElem?_take] at hu
    split at hu
    · have := h j u hu
      rwa [add_none] at this
    · cases hu
theorem open_intRow {k : IntKind} {t e : TypeId} {v : Value} {d : DataW H} {ps : List MemPlace} (ht : P.underlying t = some (.slice e)) (he : P.underlying e = some (.int k)) (hc : P.cellsOf e = 1)
    (hv : Value.okWide P w .any base t v) (h : DataW.Trod enc P w 0 (fun _ => true) true t v d ps) :
    ∃ zs : List Int, ArgRow w v (zs.map (Value.int k)) ∧ (∀ z ∈ zs, k.min ≤ z ∧ z ≤ k.max) ∧ (d = .nil ∧ zs = [] ∨ ∃ rest, d = .slice (lits k zs) rest) := by
  obtain ⟨a, len, cap, rfl⟩ := okWide_slice ht hv
  obtain ⟨fuel, hf⟩ := h
  rcases open_ints ht he hc hf with ⟨hcs, hd⟩ | ⟨x, l, c, zs, hcs, _, hl, hm, hz, hd, hcell, hwz⟩
  · simp [Value.cells] at hcs
    obtain ⟨rfl, rfl, rfl⟩ := hcs
    exact ⟨[], ⟨none, 0, rfl, Nat.le_refl _, by simp, fun h => absurd rfl h⟩, by simp, .inl ⟨(Prod.mk.inj hd).1, rfl⟩⟩
  · simp [Value.cells] at hcs
    obtain ⟨rfl, rfl, rfl⟩ := hcs
    simp at hz
    refine ⟨zs.take len, ?_, fun z hz => int_of_wf (hwz z (List.mem_of_mem_take hz)), .inr ⟨_, (Prod.mk.inj hd).1⟩⟩
    rw [List.map_take]
    refine argRow_of _ hl hm (by simp; omega) ?_
    intro i u hu
    have hi : i < zs.length := by
      have := (List.getElem?_eq_some_iff.1 hu).1
      simpa using this
    rw [hcell i hi]
    simp [List.getElem?_eq_getElem hi] at hu
    simp [List.getD, hi, hu]
theorem open_strRow {t e : TypeId} {v : Value} {d : DataW H} {ps : List MemPlace} (ht : P.underlying t = some (.slice e)) (he : P.underlying e = some .string) (hc : P.cellsOf e = 1)
    (hv : Value.okWide P w .any base t v) (h : DataW.Trod enc P w 0 (fun _ => true) true t v d ps) :
    ∃ ss : List ByteArray, ArgRow w v (ss.map Value.string) ∧ (∀ z ∈ ss, z.size ≤ maxLen) ∧ (d = .nil ∧ ss = [] ∨ ∃ rest, d = .slice (strs ss) rest) := by
  obtain ⟨a, len, cap, rfl⟩ := okWide_slice ht hv
  obtain ⟨fuel, hf⟩ := h
  rcases open_strings ht he hc hf with ⟨hcs, hd⟩ | ⟨x, l, c, zs, hcs, _, hl, hm, hz, hd, hcell, hwz⟩
  · simp [Value.cells] at hcs
    obtain ⟨rfl, rfl, rfl⟩ := hcs
    exact ⟨[], ⟨none, 0, rfl, Nat.le_refl _, by simp, fun h => absurd rfl h⟩, by simp, .inl ⟨(Prod.mk.inj hd).1, rfl⟩⟩
  · simp [Value.cells] at hcs
    obtain ⟨rfl, rfl, rfl⟩ := hcs
    simp at hz
    refine ⟨zs.take len, ?_, fun z hz => hwz z (List.mem_of_mem_take hz), .inr ⟨_, (Prod.mk.inj hd).1⟩⟩
    rw [List.map_take]
    refine argRow_of _ hl hm (by simp; omega) ?_
    intro i u hu
    have hi : i < zs.length := by
      have := (List.getElem?_eq_some_iff.1 hu).1
      simpa using this
    rw [hcell i hi]
    simp [List.getElem?_eq_getElem hi] at hu
    simp [List.getD, hi, hu]
theorem open_array2 {k : IntKind} {t e : TypeId} {v : Value} {d : DataW H} {ps : List MemPlace} (ht : P.underlying t = some (.array 2 e)) (he : P.underlying e = some (.int k)) (hc : P.cellsOf e = 1) (hct : P.cellsOf t = 2)
    (hv : Value.okWide P w .any base t v) (h : DataW.Trod enc P w 0 (fun _ => true) true t v d ps) :
    ∃ x y : Int, v = .agg #[.int k x, .int k y] ∧ (k.min ≤ x ∧ x ≤ k.max) ∧ (k.min ≤ y ∧ y ≤ k.max) := by
  simp only [Value.okWide, ht] at hv
  obtain ⟨cs, rfl, hsz, _⟩ := hv
  rw [hct] at hsz
  obtain ⟨c0, c1, rfl⟩ : ∃ c0 c1, cs = #[c0, c1] := by
    obtain ⟨l⟩ := cs
    match l, hsz with
    | [c0, c1], _ => exact ⟨c0, c1, rfl⟩
  obtain ⟨fuel, hf⟩ := h
  obtain ⟨xs, m, _, _, _, hxl, hx⟩ := DataW.trod_array ht hf
  have h0 := hx 0 (by omega)
  have h1 := hx 1 (by omega)
  rw [hc, List.getElem?_eq_getElem (by omega)] at h0 h1
  simp [Value.cells] at h0 h1
  obtain ⟨n0, e0, _, w0⟩ := DataW.trod_int he h0
  obtain ⟨n1, e1, _, w1⟩ := DataW.trod_int he h1
  simp at e0 e1
  subst e0 e1
  exact ⟨n0, n1, rfl, int_of_wf w0, int_of_wf w1⟩
end
section
variable {w w' : World} {v : Value} {xs : List Value}
theorem ArgRow.keep (h : ArgRow w v xs) (hc : Chg (fun _ => False) w w') : ArgRow w' v xs := by
  obtain ⟨a, cap, rfl, h1, h2, h3⟩ := h
  refine ⟨a, cap, rfl, h1, h2, fun hne => ?_⟩
  obtain ⟨g, off, rfl, hg, hcell⟩ := h3 hne
  exact ⟨g, off, rfl, Nat.lt_of_lt_of_le hg hc.size, fun j u hu => hc.cell (hcell j u hu)⟩
end
theorem argCell {w w' : World} {a : Option Addr} {n cap : Nat} {xs : List Value} (h : ArgRow w (.slice a n cap) xs) (hc : Chg (fun _ => False) w w') {k : Nat} {u : Value} (hu : xs[k]? = some u) :
    ∃ g off, a = some ⟨g, off, none⟩ ∧ w'.cell? ⟨g, off + k, none⟩ = some u := by
  obtain ⟨a', cap', hv, h1, h2, h3⟩ := h
  cases hv
  have hne : xs ≠ [] := by rintro rfl; simp at hu
  obtain ⟨g, off, rfl, hg, hcell⟩ := h3 hne
  exact ⟨g, off, rfl, hc.cell (hcell k u hu)⟩
end Go.Proofs.YtjianickjahdnaaDoor
namespace Go.Proofs.YtjianickjahdnaaDoor
open Go.ChangeShapes Go.WideShapes Go.ChangeAt Go.RowKit
set_option linter.unusedVariables false

section
variable {H : Type} {enc : TypeId × Value → H} {P : Program} {w : World} {base : Nat} {sp : Nat → Bool} {held : Bool} {x : List Value} {y : DataW H × List MemPlace} {fuel o : Nat} {t : TypeId}
theorem one_get {v : Value} (h : (x.drop o).take 1 = [v]) : x[o]? = some v := by
  have h2 := congrArg (fun l => l[0]?) h
  simpa [List.getElem?_take, List.getElem?_drop] using h2
theorem cell_int {k : IntKind} (ht : P.underlying t = some (.int k)) (hc : P.cellsOf t = 1) (h : DataW.trod enc P w 0 sp held fuel t ((x.drop o).take (P.cellsOf t)) = some y) : ∃ n, x[o]? = some (.int k n) ∧ (k.min ≤ n ∧ n ≤ k.max) := by
  obtain ⟨n, h1, _, h2⟩ := DataW.trod_int ht h
  rw [hc] at h1
  exact ⟨n, one_get h1, int_of_wf h2⟩
theorem cell_string (ht : P.underlying t = some .string) (hc : P.cellsOf t = 1) (h : DataW.trod enc P w 0 sp held fuel t ((x.drop o).take (P.cellsOf t)) = some y) : ∃ s : ByteArray, x[o]? = some (.string s) ∧ s.size ≤ maxLen := by
  obtain ⟨s, h1, _, h2⟩ := DataW.trod_string ht h
  rw [hc] at h1
  exact ⟨s, one_get h1, h2⟩
/-- A struct that came in, cell by cell. -/
theorem open_struct {fs : Array Field} {v : Value} {d : DataW H} {ps : List MemPlace} (ht : P.underlying t = some (.struct fs)) (hv : Value.okWide P w .any base t v) (h : DataW.Trod enc P w 0 sp held t v d ps) :
    ∃ cs : Array Value, v = .agg cs ∧ cs.toList.length = P.cellsOf t ∧ ∀ (i : Nat) (f : Field), fs[i]? = some f → ∃ fuel y, DataW.trod enc P w 0 sp held fuel f.type ((cs.toList.drop f.offset).take (P.cellsOf f.type)) = some y := by
  simp only [Value.okWide, ht] at hv
  obtain ⟨cs, rfl, hsz, _⟩ := hv
  obtain ⟨n, hf⟩ := h
  obtain ⟨xs, m, _, _, _, hxl, hx⟩ := DataW.trod_struct ht hf
  refine ⟨cs, rfl, by simpa using hsz, fun i f hif => ?_⟩
  have hi : i < xs.length := by rw [hxl]; exact (Array.getElem?_eq_some_iff.1 hif).1
  exact ⟨m, xs[i], by rw [← List.getElem?_eq_getElem hi]; exact hx i f hif⟩
end
theorem list8 {x : List Value} {a b c d e f g h : Value} (hl : x.length = 8) (h0 : x[0]? = some a) (h1 : x[1]? = some b) (h2 : x[2]? = some c) (h3 : x[3]? = some d) (h4 : x[4]? = some e) (h5 : x[5]? = some f) (h6 : x[6]? = some g) (h7 : x[7]? = some h) : x = [a, b, c, d, e, f, g, h] := by
  match x, hl with
  | [_, _, _, _, _, _, _, _], _ => simp_all
end Go.Proofs.YtjianickjahdnaaDoor
namespace Go.Proofs.YtjianickjahdnaaDoor
open Go.ChangeShapes Go.WideShapes Go.ChangeAt Go.RowKit
set_option linter.unusedVariables false

/-- A slice that came in: its elements (n cells each) are xs. -/
def ArgRows (w : World) (v : Value) (n : Nat) (xs : List (List Value)) : Prop :=
  ∃ a cap, v = .slice a xs.length cap ∧ xs.length ≤ cap ∧ cap ≤ maxLen ∧ (xs ≠ [] → ∃ g off, a = some ⟨g, off, none⟩ ∧ ∀ (j i : Nat) (x : List Value) (u : Value), xs[j]? = some x → x[i]? = some u → w.cell? ⟨g, off + j * n + i, none⟩ = some u)
theorem ArgRows.keep {w w' : World} {v : Value} {n : Nat} {xs : List (List Value)} (h : ArgRows w v n xs) (hc : Chg (fun _ => False) w w') : ArgRows w' v n xs := by
  obtain ⟨a, cap, rfl, h1, h2, h3⟩ := h
  refine ⟨a, cap, rfl, h1, h2, fun hne => ?_⟩
  obtain ⟨g, off, rfl, hcell⟩ := h3 hne
  exact ⟨g, off, rfl, fun j i x u hx hu => hc.cell (hcell j i x u hx hu)⟩
section
variable {H : Type} {enc : TypeId × Value → H} {P : Program} {w : World} {base : Nat}
theorem open_rows {t e : TypeId} {fs : Array Field} {v : Value} {d : DataW H} {ps : List MemPlace} (ht : P.underlying t = some (.slice e)) (he : P.underlying e = some (.struct fs)) (hn : 0 < P.cellsOf e)
    (hv : Value.okWide P w .any base t v) (h : DataW.Trod enc P w 0 (fun _ => true) true t v d ps) :
    ∃ xs : List (List Value), ArgRows w v (P.cellsOf e) xs ∧ ∀ x ∈ xs, x.length = P.cellsOf e ∧ ∀ (i : Nat) (f : Field), fs[i]? = some f → ∃ fuel y, DataW.trod enc P w 0 (fun _ => true) true fuel f.type ((x.drop f.offset).take (P.cellsOf f.type)) = some y := by
  obtain ⟨a, len, cap, rfl⟩ := okWide_slice ht hv
  obtain ⟨fuel, hf⟩ := h
  rcases DataW.trod_slice ht hf with ⟨hcs, -⟩ | ⟨ad, len', cap', elems, rest, n, -, hcs, -, -, hl, hm, hlen, hel, -, -⟩
  · simp [Value.cells] at hcs
    obtain ⟨rfl, rfl, rfl⟩ := hcs
    exact ⟨[], ⟨none, 0, rfl, Nat.le_refl _, by simp, fun h => absurd rfl h⟩, by simp⟩
  · simp [Value.cells] at hcs
    obtain ⟨rfl, rfl, rfl⟩ := hcs
    have each : ∀ i, i < len → ∃ cs, w.cells? 0 (ad.add (i * P.cellsOf e)) (P.cellsOf e) = some cs ∧ ∃ y, DataW.trod enc P w 0 (fun _ => true) true n e cs = some y := by
      intro i hi
      have h1 := hel i hi
      rw [List.getElem?_eq_getElem (by omega), Option.bind_eq_some_iff] at h1
      obtain ⟨cs, h2, h3⟩ := h1
      exact ⟨cs, h2, _, h3⟩
    let f : Nat → List Value := fun i => (w.cells? 0 (ad.add (i * P.cellsOf e)) (P.cellsOf e)).getD []
    refine ⟨(List.range len).map f, ⟨some ad, cap, by simp, by simpa using hl, hm, fun hne => ?_⟩, fun x hx => ?_⟩
    · have h0 : 0 < len := by
        apply Nat.pos_of_ne_zero
        rintro rfl
        simp at hne
      obtain ⟨cs0, hc0, -⟩ := each 0 h0
      obtain ⟨-, hl0, hg0⟩ := World.cells?_some hc0
      have h1 := hg0 0 hn
      rw [List.getElem?_eq_getElem (by omega), Nat.zero_mul] at h1
      obtain ⟨g, off, hh⟩ := addr_none h1
      have hadd0 : ad.add 0 = ad := by obtain ⟨b', o', s'⟩ := ad; unfold Addr.add; split <;> simp_all
      rw [hadd0] at hh
      subst hh
      refine ⟨g, off, rfl, fun j i x u hj hi => ?_⟩
      rw [List.getElem?_map] at hj
      obtain ⟨k, hk, rfl⟩ := Option.map_eq_some_iff.1 hj
      obtain ⟨hk1, hk2⟩ := List.getElem?_eq_some_iff.1 hk
      rw [List.length_range] at hk1
      rw [List.getElem_range] at hk2
      subst hk2
      obtain ⟨cs, hc, -⟩ := each j hk1
      have hfx : f j = cs := by show (w.cells? 0 _ _).getD [] = cs; rw [hc]; rfl
      rw [hfx] at hi
      obtain ⟨-, hl', hg'⟩ := World.cells?_some hc
      have hi' : i < P.cellsOf e := by rw [← hl']; exact (List.getElem?_eq_some_iff.1 hi).1
      have h2 := hg' i hi'
      rw [hi, add_none, add_none] at h2
      exact h2
    · obtain ⟨i, hi, rfl⟩ := List.mem_map.1 hx
      rw [List.mem_range] at hi
      obtain ⟨cs, hc, y, hy⟩ := each i hi
      have hfx : f i = cs := by show (w.cells? 0 _ _).getD [] = cs; rw [hc]; rfl
      rw [hfx]
      obtain ⟨-, hl', -⟩ := World.cells?_some hc
      obtain ⟨ys, m, _, _, _, hxl, hx'⟩ := DataW.trod_struct he hy
      refine ⟨hl', fun k fd hk => ?_⟩
      have hki : k < ys.length := by rw [hxl]; exact (Array.getElem?_eq_some_iff.1 hk).1
      exact ⟨m, ys[k], by rw [← List.getElem?_eq_getElem hki]; exact hx' k fd hk⟩
end
end Go.Proofs.YtjianickjahdnaaDoor
namespace Go.Proofs.YtjianickjahdnaaDoor
open Go.RowKit
set_option linter.unusedVariables false
set_option linter.unusedSimpArgs false

theorem key_int (w : World) (v : Int) (hi : -9223372036854775808 ≤ v ∧ v ≤ 9223372036854775807) (HT : Tabs w) :
    Calls Tryd.prog 18 #[.agg #[.int .i64 3, .int .i64 v, .string ⟨#[]⟩, .int .i64 0]] w fun e w' => e = .returned (.tuple #[.string (itoaB v), .bool true]) ∧ Chg (fun _ => False) w w' :=
  key_in w ⟨3, v, ⟨#[]⟩, 0⟩ ⟨3, v, ⟨#[]⟩, 0⟩ (fun W _ => normal_int v W) (fun W _ => normal_int v W) (.inl rfl) hi HT
/-- What the loop keeps. -/
structure AI (hp : Hp) (f : Nat → Int) (n i : Nat) : Prop where
  arr : OAr hp (arrL f n)
  le : n ≤ 256
  zero : ∀ q, n ≤ q → f q = 0
  ge : ∀ q, 0 ≤ f q ∧ f q ≤ (i : Int)
set_option maxHeartbeats 12800000 in
set_option maxRecDepth 100000 in
theorem heapArrays_none (v : Value) (xs : List Int) (nb : Int) (w : World) (hx : ArgRow w v (xs.map (Value.int .u8))) (HT : Tabs w) (hl : 30 < xs.length) :
    Calls Tryd.prog 8 #[v, .int .u8 nb] w fun e w' => e = .returned (.bool true) ∧ Below w.heap.size w w' := by
  have HAW := Lib.hid (fun W (hc : Chg (fun _ => False) w W) => awake_heap W (HT.still hc))
  obtain ⟨av, cv, rfl, -, -⟩ := hx
  rw [List.length_map]
  have l1 : (30 : Int) < (xs.length : Int) := by omega
  have HC0 := Lib.hid (Chg.refl (fun _ => False) w)
  clear hl HT
  go_enter Tryd.func8, Tryd.ntmps8
  go_wp2_with (go_at_call 9; refine (HAW.out _ HC0.out).mono ?_; rintro e w0 ⟨rfl, hc0⟩; have HC0 := Lib.hid (HC0.out.trans' hc0); clear hc0)
  go_ret
  exact ⟨rfl, HC0.out.below (Nat.le_refl _) (fun _ x => x.elim)⟩
set_option maxHeartbeats 12800000 in
set_option maxRecDepth 100000 in
theorem heapArrays_some (v : Value) (xs : List Int) (nb : Nat) (w : World) (hx : ArgRow w v (xs.map (Value.int .u8))) (hxb : ∀ z ∈ xs, 0 ≤ z ∧ z ≤ 255) (hb : nb < 256) (HT : Tabs w) (hl : ¬ 30 < xs.length) :
    Calls Tryd.prog 8 #[v, .int .u8 (nb : Int)] w fun e w' => e = .returned (.bool true) ∧ Below w.heap.size w w' := by
  have HAW := Lib.hid (awake_heap w HT)
  have HNW := Lib.hid (fun W => new_any 0 0 W)
  have HAX := Lib.hid hx
  have HXB := Lib.hid hxb
  have HTT := Lib.hid HT
  have HOF := Lib.hid (fun (h : Int) (W : World) => vofA h W)
  obtain ⟨av, cv, rfl, -, -⟩ := hx
  rw [List.length_map] at *
  have l1 : ¬ (30 : Int) < (xs.length : Int) := by omega
  have HB_ := Lib.hid hb
  have HL := Lib.hid hl
  clear hl HT hxb hb
  go_enter Tryd.func8, Tryd.ntmps8
  go_upto_region 4 with (first
    | (go_at_call 9; refine HAW.out.mono ?_; rintro e w0 ⟨rfl, hc0⟩)
    | (go_at_call 10; refine (HNW.out _).mono ?_; rintro e w1 ⟨cs, F, rfl, hown, hnd, hlo, hch⟩; have hown' := hown; obtain ⟨v1, v2, v3, F1, F2, F3, rfl, o1, o2, o3, -⟩ := hown'; obtain ⟨x1, y1, p1⟩ := Rep.opened o1; obtain ⟨n1, m1, rfl, -⟩ := p1.val; obtain ⟨x2, y2, p2⟩ := Rep.opened o2; obtain ⟨n2, m2, rfl, -⟩ := p2.val; obtain ⟨x3, y3, p3⟩ := Rep.opened o3; obtain ⟨n3, m3, rfl, -⟩ := p3.val; clear o1 o2 o3 p1 p2 p3))
  have hch' := hc0.trans' hch
  have HO := Lib.hid (show Own hpR w (w1.alloc (.cells _ 30)) w1.heap.size 0 (newM 0 0) F from ⟨Here.made w1 30 _ (newM 0 0) F hown hnd, hch'.allocR _, hch'.size, fun k hk => by have := hlo k hk; have := hc0.size; omega⟩)
  clear HNW HAW hown hnd hlo hch hch' hc0
  generalize w1.alloc (.cells #[.int .i64 (newM 0 0).base, .int .i64 (newM 0 0).stride, .slice n1 (newM 0 0).slots.length m1, .slice n2 (newM 0 0).free.length m2, .int .i64 (newM 0 0).live, .int .i64 (newM 0 0).global, .int .i64 (newM 0 0).texts, .slice n3 (newM 0 0).protos.length m3] 30) = W2 at *
  generalize w1.heap.size = bh at *
  have hmk := make_any W2 bh (newM 0 0) F 1 HO.out.here rfl rfl (of_decide_eq_true (by kernel_rfl)) rfl (by omega)
  rw [show handleM (newM 0 0).base (newM 0 0).stride (newM 0 0).slots.length = 13 by kernel_rfl, show ((1 : Nat) : Int) = 1 from rfl] at hmk
  have HMK := Lib.hid hmk
  have HPB := Lib.hid OAr.begin
  clear hmk
  generalize addedM (newM 0 0) ⟨true, newObj 1 ((newM 0 0).protos.getD 1 0)⟩ = hp0 at *
  generalize newM 0 0 = hpn at *
  go_upto_region 5 with (go_at_call 11; refine HMK.out.mono ?_; rintro e Wm ⟨rfl, hA⟩)
  obtain ⟨Fm, hom⟩ := hA.post.own HO.out
  have HOM := Lib.hid hom
  clear hA hom HMK HO
  go_upto_region 6 with fail
  have HBA := Lib.hid (show HB w (Wm.alloc (.cells Tryd.zeroCells69 69)) bh Wm.heap.size hp0 (fun _ => 0) Fm from ⟨HOM.out.still (Chg.alloc _ _ _), ArrAt.begin Wm, HOM.out.chg.size, fun x => by
    have := HOM.out.allLt _ x
    omega⟩)
  have HAI : Hid (AI hp0 (fun _ => 0) 0 0) := Lib.hid ⟨HPB.out, by omega, fun _ _ => rfl, fun _ => ⟨by omega, by omega⟩⟩
  generalize Wm.alloc (.cells Tryd.zeroCells69 69) = wa at *
  generalize Wm.heap.size = b8 at *
  clear HOM HPB
  go_wp2_with fail
  go_loopw [9, 10, 11, 12] (fun u9 u10 _ _ wr => ∃ (i n : Nat) (hp : Hp) (f : Nat → Int) (F : List Nat), i ≤ xs.length ∧ u10 = .int .i64 i ∧ u9 = .int .i64 n ∧ Hid (AI hp f n i) ∧ Hid (HB w wr bh b8 hp f F)) (fun _ u10 _ _ _ => xs.length - (intOf u10).toNat)
  case atStart => exact ⟨0, 0, hp0, fun _ => 0, Fm, by omega, rfl, rfl, HAI, HBA⟩
  case round =>
    clear HAI HBA
    obtain ⟨i, n, hp, f, F, hi, rfl, rfl, HAI, HBI⟩ := hrel
    by_cases hlt : i < xs.length
    · have i0 : (0 : Int) ≤ (i : Int) := by omega
      have i1 : (i : Int) < (xs.length : Int) := by omega
      have hlx := HL.out
      have w64 : IntKind.i64.wrap ((i : Int) + 1) = ((i + 1 : Nat) : Int) := IntWalk.i64_in _ (by omega)
      have HLT := Lib.hid hlt
      have hxi : (xs.map (Value.int .u8))[i]? = some (.int .u8 xs[i]) := by rw [List.getElem?_map, List.getElem?_eq_getElem hlt]; rfl
      obtain ⟨hz0, hz1⟩ := HXB.out _ (List.getElem_mem hlt)
      obtain ⟨j, hje, hj⟩ : ∃ j : Nat, xs[i] = (j : Int) ∧ j < 256 := ⟨xs[i].toNat, by omega, by omega⟩
      rw [hje] at hxi
      obtain ⟨ga, oa, rfl, e1⟩ := argCell HAX.out HBI.out.heap.chg hxi
      have HKC : Hid (∀ W, Chg (fun _ => False) w W → W.cell? ⟨ga, oa + i, none⟩ = some (.int .u8 (j : Int))) := Lib.hid (fun W hc => by
        obtain ⟨ga', oa', hv, e⟩ := argCell HAX.out hc hxi
        cases hv
        exact e)
      clear hz0 hz1 hje hxi
      obtain ⟨k1, k2, k3⟩ := keyK hj
      obtain ⟨hp2, hA2, hput⟩ := putArr HAI.out.arr HAI.out.le HAI.out.zero hj (v := (i : Int) + 1) (by omega)
      have HPO := Lib.hid (fun W (hc : Chg (fun _ => False) w W) => position_any (itoaB (j : Int)) W (by omega) (HTT.out.still hc))
      rw [k1] at HPO
      have HKY := Lib.hid (fun W (hc : Chg (fun _ => False) w W) => key_int W (j : Int) (by omega) (HTT.out.still hc))
      have HPU := Lib.hid hput
      have HAN : Hid (AI hp2 (updF f j ((i : Int) + 1)) (max n (j + 1)) (i + 1)) := Lib.hid ⟨hA2, by have := HAI.out.le; omega, updF_zero HAI.out.zero j _, fun q => by
        unfold updF
        split
        · omega
        · have := HAI.out.ge q; omega⟩
      generalize itoaB (j : Int) = key at *
      have j0 : (0 : Int) ≤ (j : Int) := by omega
      have j1 : (j : Int) < 256 := by omega
      have jw2 : IntKind.i64.wrap (j : Int) = (j : Int) := IntWalk.i64_in _ (by omega)
      have jw : wrap64 (j : Int) = (j : Int) := IntWalk.wrap64_in _ (by omega)
      have iw : wrap64 ((i : Int) + 1) = ((i + 1 : Nat) : Int) := IntWalk.wrap64_in _ (by omega)
      have jne : ((j : Int) != (j : Int)) = false := by simp
      have HJ := Lib.hid hj
      have hn256 := HAI.out.le
      have HNL := Lib.hid hn256
      clear k1 k2 k3 hA2 hput hlx hi hlt HAI hn256
      go_upto_region 11 with (first
        | (go_at_call 25; refine (HOF.out _ _).mono ?_; rintro e wf ⟨rfl, hcf⟩; have HBF := Lib.hid (HBI.out.still hcf); clear hcf)
        | (go_at_call 18; refine (HKY.out _ HBF.out.heap.chg).mono ?_; rintro e wk ⟨rfl, hck⟩; have HHJ := Lib.hid (HBF.out.still hck); clear hck))
      have HS0 : Hid (wk.cell? ⟨ga, oa + i, none⟩ = some (.int .u8 (j : Int))) := Lib.hid (HKC.out _ HHJ.out.heap.chg)
      clear e1 HBI HBF HKY
      refine wp_region_held_split 18 (fun w' => w'.cell? ⟨ga, oa + i, none⟩ = some (.int .u8 (j : Int))) (by kernel_rfl) (by kernel_rfl) ?_ (fun hHeld => ?_)
      · (first | exact HS0.out | exact HKS.out _ HCC.out)
      simp only [List.take_succ_cons, List.take_zero]
      have HKS : Hid (∀ W, Chg (fun _ => False) wk.drew W → W.cell? ⟨ga, oa + i, none⟩ = some (.int .u8 (j : Int))) := Lib.hid (fun W hc => hc.cell HS0.out)
      have HWD : Hid (Chg (fun _ => False) wk wk.drew) := Lib.hid (Chg.refl _ wk).drewR
      have HHK := Lib.hid (HHJ.out.still HWD.out)
      generalize wk.drew = wD at *
      have HCC := Lib.hid (Chg.refl (fun _ => False) wD)
      refine wpAnyH_take (i := 0) (v := ?_) rfl (by kernel_rfl) (by kernel_rfl) (by kernel_rfl) (fun _ _ _ h => h) (Or.inl ⟨by rfl, ?_⟩) (by assumption) ?_
      rotate_left
      · (intro wq hSw; (try dsimp only at hSw); go_simp; (try with_reducible rfl))
      simp only [Act.put, List.getElem_toArray, List.getElem_cons_zero, List.getElem_cons_succ, List.setIfInBounds_toArray, List.set_cons_zero, List.set_cons_succ]
      refine wpAnyH_take (i := 1) (v := ?_) rfl (by kernel_rfl) (by kernel_rfl) (by kernel_rfl) (fun _ _ _ h => h) (Or.inl ⟨by rfl, ?_⟩) (by assumption) ?_
      rotate_left
      · (intro wq hSw; (try dsimp only at hSw); go_simp; (try with_reducible rfl))
      simp only [Act.put, List.getElem_toArray, List.getElem_cons_zero, List.getElem_cons_succ, List.setIfInBounds_toArray, List.set_cons_zero, List.set_cons_succ]
      refine wpAnyH_take (i := 2) (v := ?_) rfl (by kernel_rfl) (by kernel_rfl) (by kernel_rfl) (fun _ _ _ h => h) (Or.inl ⟨by rfl, ?_⟩) (by assumption) ?_
      rotate_left
      · (intro wq hSw; (try dsimp only at hSw); go_simp; (try with_reducible rfl))
      simp only [Act.put, List.getElem_toArray, List.getElem_cons_zero, List.getElem_cons_succ, List.setIfInBounds_toArray, List.set_cons_zero, List.set_cons_succ]
      first
      | (refine wpAnyH_take (i := 3) (v := undef) rfl (by kernel_rfl) (by kernel_rfl) (by kernel_rfl) (fun _ _ _ h => h) (Or.inr ⟨by rfl, rfl⟩) (by assumption) ?_)
      | (refine wpAnyH_take (i := 3) (v := ?_) rfl (by kernel_rfl) (by kernel_rfl) (by kernel_rfl) (fun _ _ _ h => h) (Or.inl ⟨by rfl, ?_⟩) (by assumption) ?_; rotate_left; (focus (intro wq hSw; (try dsimp only at hSw); go_simp; (try with_reducible rfl))))
      simp only [Act.put, List.getElem_toArray, List.getElem_cons_zero, List.getElem_cons_succ, List.setIfInBounds_toArray, List.set_cons_zero, List.set_cons_succ]
      first
      | (refine wpAnyH_take (i := 5) (v := undef) rfl (by kernel_rfl) (by kernel_rfl) (by kernel_rfl) (fun _ _ _ h => h) (Or.inr ⟨by rfl, rfl⟩) (by assumption) ?_)
      | (refine wpAnyH_take (i := 5) (v := ?_) rfl (by kernel_rfl) (by kernel_rfl) (by kernel_rfl) (fun _ _ _ h => h) (Or.inl ⟨by rfl, ?_⟩) (by assumption) ?_; rotate_left; (focus (intro wq hSw; (try dsimp only at hSw); go_simp; (try with_reducible rfl))))
      simp only [Act.put, List.getElem_toArray, List.getElem_cons_zero, List.getElem_cons_succ, List.setIfInBounds_toArray, List.set_cons_zero, List.set_cons_succ]
      first
      | (refine wpAnyH_take (i := 6) (v := undef) rfl (by kernel_rfl) (by kernel_rfl) (by kernel_rfl) (fun _ _ _ h => h) (Or.inr ⟨by rfl, rfl⟩) (by assumption) ?_)
      | (refine wpAnyH_take (i := 6) (v := ?_) rfl (by kernel_rfl) (by kernel_rfl) (by kernel_rfl) (fun _ _ _ h => h) (Or.inl ⟨by rfl, ?_⟩) (by assumption) ?_; rotate_left; (focus (intro wq hSw; (try dsimp only at hSw); go_simp; (try with_reducible rfl))))
      simp only [Act.put, List.getElem_toArray, List.getElem_cons_zero, List.getElem_cons_succ, List.setIfInBounds_toArray, List.set_cons_zero, List.set_cons_succ]
      first
      | (refine wpAnyH_take (i := 7) (v := undef) rfl (by kernel_rfl) (by kernel_rfl) (by kernel_rfl) (fun _ _ _ h => h) (Or.inr ⟨by rfl, rfl⟩) (by assumption) ?_)
      | (refine wpAnyH_take (i := 7) (v := ?_) rfl (by kernel_rfl) (by kernel_rfl) (by kernel_rfl) (fun _ _ _ h => h) (Or.inl ⟨by rfl, ?_⟩) (by assumption) ?_; rotate_left; (focus (intro wq hSw; (try dsimp only at hSw); go_simp; (try with_reducible rfl))))
      simp only [Act.put, List.getElem_toArray, List.getElem_cons_zero, List.getElem_cons_succ, List.setIfInBounds_toArray, List.set_cons_zero, List.set_cons_succ]
      first
      | (refine wpAnyH_take (i := 8) (v := undef) rfl (by kernel_rfl) (by kernel_rfl) (by kernel_rfl) (fun _ _ _ h => h) (Or.inr ⟨by rfl, rfl⟩) (by assumption) ?_)
      | (refine wpAnyH_take (i := 8) (v := ?_) rfl (by kernel_rfl) (by kernel_rfl) (by kernel_rfl) (fun _ _ _ h => h) (Or.inl ⟨by rfl, ?_⟩) (by assumption) ?_; rotate_left; (focus (intro wq hSw; (try dsimp only at hSw); go_simp; (try with_reducible rfl))))
      simp only [Act.put, List.getElem_toArray, List.getElem_cons_zero, List.getElem_cons_succ, List.setIfInBounds_toArray, List.set_cons_zero, List.set_cons_succ]
      first
      | (refine wpAnyH_take (i := 9) (v := undef) rfl (by kernel_rfl) (by kernel_rfl) (by kernel_rfl) (fun _ _ _ h => h) (Or.inr ⟨by rfl, rfl⟩) (by assumption) ?_)
      | (refine wpAnyH_take (i := 9) (v := ?_) rfl (by kernel_rfl) (by kernel_rfl) (by kernel_rfl) (fun _ _ _ h => h) (Or.inl ⟨by rfl, ?_⟩) (by assumption) ?_; rotate_left; (focus (intro wq hSw; (try dsimp only at hSw); go_simp; (try with_reducible rfl))))
      simp only [Act.put, List.getElem_toArray, List.getElem_cons_zero, List.getElem_cons_succ, List.setIfInBounds_toArray, List.set_cons_zero, List.set_cons_succ]
      refine wpAnyH_ready (rs := [4]) (by kernel_rfl) (by simp) ?_
      refine AllReadyH.cons (by simp only [List.getElem?_toArray, List.getElem?_cons_succ, List.getElem?_cons_zero]; rfl) (fun K hK => ?_) AllReadyH.nil
      (go_simp; go_at_call 21; refine (HPO.out _ (HHK.out.still HCC.out).heap.chg).mono ?_; rintro _ wd ⟨rfl, hcd⟩; have HCC := Lib.hid (HCC.out.trans' hcd); clear hcd; go_simp)
      refine hK.out _ _ ?_ (fun hHeld => ?_)
      · (first | exact HS0.out | exact HKS.out _ HCC.out)
      clear hK K
      (try simp only [Act.put, List.getElem_toArray, List.getElem_cons_zero, List.getElem_cons_succ, List.setIfInBounds_toArray, List.set_cons_zero, List.set_cons_succ])
      first
      | (refine wpAnyH_take (i := 10) (v := undef) rfl (by kernel_rfl) (by kernel_rfl) (by kernel_rfl) (fun _ _ _ h => h) (Or.inr ⟨by rfl, rfl⟩) (by assumption) ?_)
      | (refine wpAnyH_take (i := 10) (v := ?_) rfl (by kernel_rfl) (by kernel_rfl) (by kernel_rfl) (fun _ _ _ h => h) (Or.inl ⟨by rfl, ?_⟩) (by assumption) ?_; rotate_left; (focus (intro wq hSw; (try dsimp only at hSw); go_simp; (try with_reducible rfl))))
      simp only [Act.put, List.getElem_toArray, List.getElem_cons_zero, List.getElem_cons_succ, List.setIfInBounds_toArray, List.set_cons_zero, List.set_cons_succ]
      refine wpAnyH_take (i := 11) (v := ?_) rfl (by kernel_rfl) (by kernel_rfl) (by kernel_rfl) (fun _ _ _ h => h) (Or.inl ⟨by rfl, ?_⟩) (by assumption) ?_
      rotate_left
      · (intro wq hSw; (try dsimp only at hSw); go_simp; (try with_reducible rfl))
      simp only [Act.put, List.getElem_toArray, List.getElem_cons_zero, List.getElem_cons_succ, List.setIfInBounds_toArray, List.set_cons_zero, List.set_cons_succ]
      refine wpAnyH_take (i := 12) (v := ?_) rfl (by kernel_rfl) (by kernel_rfl) (by kernel_rfl) (fun _ _ _ h => h) (Or.inl ⟨by rfl, ?_⟩) (by assumption) ?_
      rotate_left
      · (intro wq hSw; (try dsimp only at hSw); go_simp; (try with_reducible rfl))
      simp only [Act.put, List.getElem_toArray, List.getElem_cons_zero, List.getElem_cons_succ, List.setIfInBounds_toArray, List.set_cons_zero, List.set_cons_succ]
      first
      | (refine wpAnyH_take (i := 13) (v := undef) rfl (by kernel_rfl) (by kernel_rfl) (by kernel_rfl) (fun _ _ _ h => h) (Or.inr ⟨by rfl, rfl⟩) (by assumption) ?_)
      | (refine wpAnyH_take (i := 13) (v := ?_) rfl (by kernel_rfl) (by kernel_rfl) (by kernel_rfl) (fun _ _ _ h => h) (Or.inl ⟨by rfl, ?_⟩) (by assumption) ?_; rotate_left; (focus (intro wq hSw; (try dsimp only at hSw); go_simp; (try with_reducible rfl))))
      simp only [Act.put, List.getElem_toArray, List.getElem_cons_zero, List.getElem_cons_succ, List.setIfInBounds_toArray, List.set_cons_zero, List.set_cons_succ]
      first
      | (refine wpAnyH_take (i := 14) (v := undef) rfl (by kernel_rfl) (by kernel_rfl) (by kernel_rfl) (fun _ _ _ h => h) (Or.inr ⟨by rfl, rfl⟩) (by assumption) ?_)
      | (refine wpAnyH_take (i := 14) (v := ?_) rfl (by kernel_rfl) (by kernel_rfl) (by kernel_rfl) (fun _ _ _ h => h) (Or.inl ⟨by rfl, ?_⟩) (by assumption) ?_; rotate_left; (focus (intro wq hSw; (try dsimp only at hSw); go_simp; (try with_reducible rfl))))
      simp only [Act.put, List.getElem_toArray, List.getElem_cons_zero, List.getElem_cons_succ, List.setIfInBounds_toArray, List.set_cons_zero, List.set_cons_succ]
      first
      | (refine wpAnyH_take (i := 15) (v := undef) rfl (by kernel_rfl) (by kernel_rfl) (by kernel_rfl) (fun _ _ _ h => h) (Or.inr ⟨by rfl, rfl⟩) (by assumption) ?_)
      | (refine wpAnyH_take (i := 15) (v := ?_) rfl (by kernel_rfl) (by kernel_rfl) (by kernel_rfl) (fun _ _ _ h => h) (Or.inl ⟨by rfl, ?_⟩) (by assumption) ?_; rotate_left; (focus (intro wq hSw; (try dsimp only at hSw); go_simp; (try with_reducible rfl))))
      simp only [Act.put, List.getElem_toArray, List.getElem_cons_zero, List.getElem_cons_succ, List.setIfInBounds_toArray, List.set_cons_zero, List.set_cons_succ]
      first
      | (refine wpAnyH_take (i := 16) (v := undef) rfl (by kernel_rfl) (by kernel_rfl) (by kernel_rfl) (fun _ _ _ h => h) (Or.inr ⟨by rfl, rfl⟩) (by assumption) ?_)
      | (refine wpAnyH_take (i := 16) (v := ?_) rfl (by kernel_rfl) (by kernel_rfl) (by kernel_rfl) (fun _ _ _ h => h) (Or.inl ⟨by rfl, ?_⟩) (by assumption) ?_; rotate_left; (focus (intro wq hSw; (try dsimp only at hSw); go_simp; (try with_reducible rfl))))
      simp only [Act.put, List.getElem_toArray, List.getElem_cons_zero, List.getElem_cons_succ, List.setIfInBounds_toArray, List.set_cons_zero, List.set_cons_succ]
      refine wpAnyH_ready (rs := [17]) (by kernel_rfl) (by simp) ?_
      refine AllReadyH.cons (by simp only [List.getElem?_toArray, List.getElem?_cons_succ, List.getElem?_cons_zero]; rfl) (fun K hK => ?_) AllReadyH.nil
      (go_simp; go_at_call 25; refine (HOF.out _ _).mono ?_; rintro _ wd ⟨rfl, hcd⟩; have HCC := Lib.hid (HCC.out.trans' hcd); clear hcd; go_simp)
      refine hK.out _ _ ?_ (fun hHeld => ?_)
      · (first | exact HS0.out | exact HKS.out _ HCC.out)
      clear hK K
      (try simp only [Act.put, List.getElem_toArray, List.getElem_cons_zero, List.getElem_cons_succ, List.setIfInBounds_toArray, List.set_cons_zero, List.set_cons_succ])
      refine wpAnyH_done (by kernel_rfl) ?_ _
      change wpList _ _ _ _ _ _
      simp only [List.drop_succ_cons, List.drop_zero]
      have HBX := Lib.hid (HHK.out.still HCC.out)
      clear HS0 HKS hHeld HWD HCC HHK HHJ HPO
      go_upto_region 13 with (go_at_call 24; refine (HPU.out _ _ _ HBX.out.heap.here (HTT.out.still HBX.out.heap.chg)).mono ?_; rintro e wp ⟨rfl, hpp⟩)
      obtain ⟨Fp, hrp⟩ := HBX.out.heapS hpp
      have HBP := Lib.hid hrp
      clear hpp hrp HPU HBX
      have e2 := HKC.out _ HBP.out.heap.chg
      have a1 := HBP.out.arr.cell HJ.out
      have a2 := HBP.out.arr.froz j
      have hset := HBP.out.set HJ.out ((i : Int) + 1)
      have HBS := Lib.hid hset
      have e3 := HKC.out _ hset.heap.chg
      clear hset
      have jn : j < 256 := HJ.out
      go_upto_region 14 with fail
      have HMX : Hid (Max.max n (j + 1) = if n < j + 1 then j + 1 else n) := Lib.hid (by split <;> omega)
      generalize wp.setCell ⟨b8, j, none⟩ (.int .i64 ((i : Int) + 1)) = ws at *
      clear a1 a2 e2
      go_wp2_with fail
      have hmx : Max.max (n : Int) ((j : Int) + 1) = ((Max.max n (j + 1) : Nat) : Int) := by omega
      go_roundw
      case rel => exact ⟨i + 1, Max.max n (j + 1), hp2, _, Fp, HLT.out, rfl, by rw [hmx], HAN, HBS⟩
      case measure => have := HLT.out; simp [intOf, w64]; omega
    · have hi2 : i = xs.length := by omega
      subst hi2
      have hnb := HB_.out
      obtain ⟨hp2, hA2, hput⟩ := putLen HAI.out.arr HAI.out.le HAI.out.zero (m := nb) (by omega)
      have HA2 := Lib.hid hA2
      have HPU := Lib.hid hput
      have HFZ := Lib.hid HAI.out.zero
      have HFG := Lib.hid (fun q => (HAI.out.ge q).1)
      have hfl := HAI.out.ge
      have hlx := HL.out
      have HF64 : Hid (∀ q, f q ≤ 30) := Lib.hid (fun q => by have := (hfl q).2; omega)
      have hn256 := HAI.out.le
      have nw : wrap64 (nb : Int) = (nb : Int) := IntWalk.wrap64_in _ (by omega)
      have nw2 : IntKind.i64.wrap (nb : Int) = (nb : Int) := IntWalk.i64_in _ (by omega)
      have nb0 : (0 : Int) ≤ (nb : Int) := by omega
      have nb1 : (nb : Int) < 256 := by omega
      clear hA2 hput hi hlt hnb HAI hfl hlx hn256
      go_upto_region 17 with (first
        | (go_at_call 25; refine (HOF.out _ _).mono ?_; rintro e wf ⟨rfl, hcf⟩; have HBF := Lib.hid (HBI.out.still hcf); clear hcf)
        | (go_at_call 24; refine (HPU.out _ _ _ HBF.out.heap.here).mono ?_; rintro e wp ⟨rfl, hpp⟩))
      obtain ⟨Fp, hrp⟩ := HBF.out.heapS hpp
      have HBP := Lib.hid hrp
      clear hpp hrp HPU HBF HBI
      obtain ⟨wo, rfl⟩ : ∃ wo : World, wo = wr := ⟨_, rfl⟩
      go_wp2_with fail
      go_loopw [13, 14, 15, 16, 17, 18] (fun u13 _ _ _ _ _ wr => ∃ i : Nat, i ≤ 256 ∧ u13 = .int .i64 i ∧ Hid (HB w wr bh b8 hp2 f Fp)) (fun u13 _ _ _ _ _ _ => 256 - (intOf u13).toNat)
      case atStart => exact ⟨0, by omega, rfl, HBP⟩
      case round =>
        clear HBP
        obtain ⟨i, hi, rfl, HBI⟩ := hrel
        by_cases hlt : i < 256
        · have i0 : (0 : Int) ≤ (i : Int) := by omega
          have i1 : (i : Int) < 256 := by omega
          have w64 : IntKind.i64.wrap ((i : Int) + 1) = ((i + 1 : Nat) : Int) := IntWalk.i64_in _ (by omega)
          have iw : wrap64 (i : Int) = (i : Int) := IntWalk.wrap64_in _ (by omega)
          have iw2 : IntKind.i64.wrap (i : Int) = (i : Int) := IntWalk.i64_in _ (by omega)
          have HLT := Lib.hid hlt
          have HKY := Lib.hid (fun W (hc : Chg (fun _ => False) w W) => key_int W (i : Int) (by omega) (HTT.out.still hc))
          have hin := fun (h : i < nb) W F H HT => ownIn HA2.out (by omega) hlt h W bh F H HT
          have hout := fun (h : ¬ i < nb) W F H HT => ownOut HA2.out (by omega) hlt h W bh F H HT
          have HIN := Lib.hid hin
          have HOUT := Lib.hid hout
          generalize itoaB (i : Int) = key at *
          clear hin hout hi hlt
          go_upto_region 21 with (first
            | (go_at_call 25; refine (HOF.out _ _).mono ?_; rintro e wf ⟨rfl, hcf⟩; have HBF := Lib.hid (HBI.out.still hcf); clear hcf)
            | (go_at_call 18; refine (HKY.out _ HBF.out.heap.chg).mono ?_; rintro e wk ⟨rfl, hck⟩; have HBK := Lib.hid (HBF.out.still hck); clear hck))
          clear HBF HBI HKY
          by_cases hnb : i < nb
          · have HOW := Lib.hid (HIN.out hnb)
            have zi : (i : Int) < (nb : Int) := by omega
            clear HIN HOUT hnb
            by_cases hfp : 0 < f i
            · have hn : i < n := by
                apply Decidable.byContradiction
                intro h
                have := HFZ.out i (by omega)
                omega
              have zn : (i : Int) < (n : Int) := by omega
              clear hn
              rw [show vF (f i) = ⟨3, f i, ⟨#[]⟩, 0⟩ from if_pos hfp] at HOW
              go_upto_region 22 with (go_at_call 23; refine (HOW.out _ _ HBK.out.heap.here (HTT.out.still HBK.out.heap.chg)).mono ?_; rintro e wo ⟨rfl, hco⟩)
              have hb16 := alloc_block wo (.cells #[.int .i64 3, .int .i64 (f i), .string ⟨#[]⟩, .int .i64 0] 36)
              have HB8 := Lib.hid ((HBK.out.still hco).still (Chg.alloc _ wo (.cells #[.int .i64 3, .int .i64 (f i), .string ⟨#[]⟩, .int .i64 0] 36)))
              clear hco HBK HOW
              generalize wo.alloc (.cells #[.int .i64 3, .int .i64 (f i), .string ⟨#[]⟩, .int .i64 0] 36) = w8 at *
              generalize wo.heap.size = b16 at *
              have HB16 := Lib.hid hb16
              have HLT16 := Lib.hid (Array.getElem?_eq_some_iff.1 hb16).1
              clear hb16
              have HB18 := Lib.hid (alloc_block w8 (.cells #[.int .i64 0, .int .i64 0, .string ⟨#[]⟩, .int .i64 0] 36))
              have HC9 := Lib.hid (Chg.alloc (fun _ => False) w8 (.cells #[.int .i64 0, .int .i64 0, .string ⟨#[]⟩, .int .i64 0] 36))
              go_upto_region 26 with fail
              generalize w8.alloc (.cells #[.int .i64 0, .int .i64 0, .string ⟨#[]⟩, .int .i64 0] 36) = w9 at *
              generalize hb18e : w8.heap.size = b18 at *
              have HE18 := Lib.hid hb18e
              clear hb18e
              have hfc := (HB8.out.still HC9.out).arr.cell (j := i) HLT.out
              have iN : i < 256 := HLT.out
              go_upto_region 28 with (go_at_call 25; refine (HOF.out _ _).mono ?_; rintro e wf ⟨rfl, hcf⟩; have hbn := hcf.keep HB18.out (fun x => x); obtain ⟨z10, q0, z11, q1, z12, q2, z13, q3, hbf, hcs⟩ := store4 hbn (.int .i64 3) (.int .i64 (f i)) (.string ⟨#[]⟩) (.int .i64 0))
              have HCZ := Lib.hid (show Chg (fun _ => False) w8 (((((wf.setCell ⟨b18, 0, none⟩ (.int .i64 3)).setCell ⟨b18, 1, none⟩ (.int .i64 (f i))).setCell ⟨b18, 2, none⟩ (.string ⟨#[]⟩)).setCell ⟨b18, 3, none⟩ (.int .i64 0))) from (HC9.out.trans' hcf).trans hcs (fun _ _ x => x) (fun k hk e => by have := HE18.out; omega))
              clear hcs hcf hbn z10 q0 z11 q1 z12 q2 z13 q3 hfc
              generalize ((((wf.setCell ⟨b18, 0, none⟩ (.int .i64 3)).setCell ⟨b18, 1, none⟩ (.int .i64 (f i))).setCell ⟨b18, 2, none⟩ (.string ⟨#[]⟩)).setCell ⟨b18, 3, none⟩ (.int .i64 0)) = wz at *
              have hb16' := HCZ.out.keep HB16.out (fun x => x)
              have m0 := cell_of_block (i := 0) hb16' rfl
              have m1 := cell_of_block (i := 1) hb16' rfl
              have m2 := cell_of_block (i := 2) hb16' rfl
              have m3 := cell_of_block (i := 3) hb16' rfl
              simp only [List.getElem_toArray, List.getElem_cons_zero, List.getElem_cons_succ] at m0 m1 m2 m3
              have n0 := cell_of_block (i := 0) hbf rfl
              have n1 := cell_of_block (i := 1) hbf rfl
              have n2 := cell_of_block (i := 2) hbf rfl
              have n3 := cell_of_block (i := 3) hbf rfl
              simp only [List.getElem_toArray, List.getElem_cons_zero, List.getElem_cons_succ] at n0 n1 n2 n3
              have HBZ := Lib.hid (HB8.out.still HCZ.out)
              clear hbf hb16'
              clear HB8 HB16 HB18 HC9 HCZ HE18 HLT16
              go_wp2_with fail
              go_roundw
              case rel => exact ⟨i + 1, by have := HLT.out; omega, rfl, HBZ⟩
              case measure => have := HLT.out; simp [intOf, w64]; omega
            · have hf0 : f i = 0 := by have := HFG.out i; omega
              by_cases hn : i < n
              · have zn : (i : Int) < (n : Int) := by omega
                clear hn hf0
                rw [show vF (f i) = ⟨0, 0, ⟨#[]⟩, 0⟩ from if_neg hfp] at HOW
                go_upto_region 22 with (go_at_call 23; refine (HOW.out _ _ HBK.out.heap.here (HTT.out.still HBK.out.heap.chg)).mono ?_; rintro e wo ⟨rfl, hco⟩)
                have hb16 := alloc_block wo (.cells #[.int .i64 0, .int .i64 0, .string ⟨#[]⟩, .int .i64 0] 36)
                have HB8 := Lib.hid ((HBK.out.still hco).still (Chg.alloc _ wo (.cells #[.int .i64 0, .int .i64 0, .string ⟨#[]⟩, .int .i64 0] 36)))
                clear hco HBK HOW
                generalize wo.alloc (.cells #[.int .i64 0, .int .i64 0, .string ⟨#[]⟩, .int .i64 0] 36) = w8 at *
                generalize wo.heap.size = b16 at *
                have HB16 := Lib.hid hb16
                have HLT16 := Lib.hid (Array.getElem?_eq_some_iff.1 hb16).1
                clear hb16
                have HB18 := Lib.hid (alloc_block w8 (.cells #[.int .i64 0, .int .i64 0, .string ⟨#[]⟩, .int .i64 0] 36))
                have HC9 := Lib.hid (Chg.alloc (fun _ => False) w8 (.cells #[.int .i64 0, .int .i64 0, .string ⟨#[]⟩, .int .i64 0] 36))
                go_upto_region 26 with fail
                generalize w8.alloc (.cells #[.int .i64 0, .int .i64 0, .string ⟨#[]⟩, .int .i64 0] 36) = w9 at *
                generalize hb18e : w8.heap.size = b18 at *
                have HE18 := Lib.hid hb18e
                clear hb18e
                have hfc := (HB8.out.still HC9.out).arr.cell (j := i) HLT.out
                have iN : i < 256 := HLT.out
                go_upto_region 28 with fail
                have HCZ := HC9
                have hb16' := HCZ.out.keep HB16.out (fun x => x)
                have m0 := cell_of_block (i := 0) hb16' rfl
                have m1 := cell_of_block (i := 1) hb16' rfl
                have m2 := cell_of_block (i := 2) hb16' rfl
                have m3 := cell_of_block (i := 3) hb16' rfl
                simp only [List.getElem_toArray, List.getElem_cons_zero, List.getElem_cons_succ] at m0 m1 m2 m3
                have n0 := cell_of_block (i := 0) HB18.out rfl
                have n1 := cell_of_block (i := 1) HB18.out rfl
                have n2 := cell_of_block (i := 2) HB18.out rfl
                have n3 := cell_of_block (i := 3) HB18.out rfl
                simp only [List.getElem_toArray, List.getElem_cons_zero, List.getElem_cons_succ] at n0 n1 n2 n3
                have HBZ := Lib.hid (HB8.out.still HCZ.out)
                clear hb16' hfc
                clear HB8 HB16 HB18 HC9 HCZ HE18 HLT16
                go_wp2_with fail
                go_roundw
                case rel => exact ⟨i + 1, by have := HLT.out; omega, rfl, HBZ⟩
                case measure => have := HLT.out; simp [intOf, w64]; omega
              · have zn : ¬ (i : Int) < (n : Int) := by omega
                clear hn hf0
                rw [show vF (f i) = ⟨0, 0, ⟨#[]⟩, 0⟩ from if_neg hfp] at HOW
                go_upto_region 22 with (go_at_call 23; refine (HOW.out _ _ HBK.out.heap.here (HTT.out.still HBK.out.heap.chg)).mono ?_; rintro e wo ⟨rfl, hco⟩)
                have hb16 := alloc_block wo (.cells #[.int .i64 0, .int .i64 0, .string ⟨#[]⟩, .int .i64 0] 36)
                have HB8 := Lib.hid ((HBK.out.still hco).still (Chg.alloc _ wo (.cells #[.int .i64 0, .int .i64 0, .string ⟨#[]⟩, .int .i64 0] 36)))
                clear hco HBK HOW
                generalize wo.alloc (.cells #[.int .i64 0, .int .i64 0, .string ⟨#[]⟩, .int .i64 0] 36) = w8 at *
                generalize wo.heap.size = b16 at *
                have HB16 := Lib.hid hb16
                have HLT16 := Lib.hid (Array.getElem?_eq_some_iff.1 hb16).1
                clear hb16
                have HB18 := Lib.hid (alloc_block w8 (.cells #[.int .i64 0, .int .i64 0, .string ⟨#[]⟩, .int .i64 0] 36))
                have HC9 := Lib.hid (Chg.alloc (fun _ => False) w8 (.cells #[.int .i64 0, .int .i64 0, .string ⟨#[]⟩, .int .i64 0] 36))
                go_upto_region 26 with fail
                generalize w8.alloc (.cells #[.int .i64 0, .int .i64 0, .string ⟨#[]⟩, .int .i64 0] 36) = w9 at *
                generalize hb18e : w8.heap.size = b18 at *
                have HE18 := Lib.hid hb18e
                clear hb18e
                have hfc := (HB8.out.still HC9.out).arr.cell (j := i) HLT.out
                have iN : i < 256 := HLT.out
                go_upto_region 28 with fail
                have HCZ := HC9
                have hb16' := HCZ.out.keep HB16.out (fun x => x)
                have m0 := cell_of_block (i := 0) hb16' rfl
                have m1 := cell_of_block (i := 1) hb16' rfl
                have m2 := cell_of_block (i := 2) hb16' rfl
                have m3 := cell_of_block (i := 3) hb16' rfl
                simp only [List.getElem_toArray, List.getElem_cons_zero, List.getElem_cons_succ] at m0 m1 m2 m3
                have n0 := cell_of_block (i := 0) HB18.out rfl
                have n1 := cell_of_block (i := 1) HB18.out rfl
                have n2 := cell_of_block (i := 2) HB18.out rfl
                have n3 := cell_of_block (i := 3) HB18.out rfl
                simp only [List.getElem_toArray, List.getElem_cons_zero, List.getElem_cons_succ] at n0 n1 n2 n3
                have HBZ := Lib.hid (HB8.out.still HCZ.out)
                clear hb16' hfc
                clear HB8 HB16 HB18 HC9 HCZ HE18 HLT16
                go_wp2_with fail
                go_roundw
                case rel => exact ⟨i + 1, by have := HLT.out; omega, rfl, HBZ⟩
                case measure => have := HLT.out; simp [intOf, w64]; omega
          · have HOW := Lib.hid (HOUT.out hnb)
            have zi : ¬ (i : Int) < (nb : Int) := by omega
            clear HIN HOUT hnb
            go_upto_region 22 with (go_at_call 23; refine (HOW.out _ _ HBK.out.heap.here (HTT.out.still HBK.out.heap.chg)).mono ?_; rintro e wo ⟨rfl, hco⟩)
            have HB8 := Lib.hid ((HBK.out.still hco).still (Chg.alloc _ wo (.cells #[.int .i64 0, .int .i64 0, .string ⟨#[]⟩, .int .i64 0] 36)))
            clear hco HBK HOW
            generalize wo.alloc (.cells #[.int .i64 0, .int .i64 0, .string ⟨#[]⟩, .int .i64 0] 36) = w8 at *
            go_wp2_with fail
            go_roundw
            case rel => exact ⟨i + 1, by have := HLT.out; omega, rfl, HB8⟩
            case measure => have := HLT.out; simp [intOf, w64]; omega
        · have hi6 : i = 256 := by omega
          subst hi6
          clear hlt hi
          obtain ⟨h1, hl, h2, h3, h4⟩ := HA2.out
          have hel : hp2.slots[12].obj.elems.length = nb := by rw [h3, arrL_len]
          have HKS := Lib.hid (keys_arr wr bh hp2 Fp 13 12 HBI.out.heap.here (by omega) h1 hl h2 (by omega) h4 (HTT.out.still HBI.out.heap.chg))
          rw [hel] at HKS
          clear h1 h2 h3 h4 hel
          go_wp2_with (go_at_call 27; refine HKS.out.mono ?_; rintro e wk ⟨vk, L, rfl, hko, hkl⟩; obtain ⟨ak, ck, rfl, -, -⟩ := hko.val; rw [hkl])
          have HCE := Lib.hid (HBI.out.heap.chg.trans' hko.chg)
          go_ret
          exact ⟨rfl, HCE.out.below (Nat.le_refl _) (fun _ x => x.elim)⟩
end Go.Proofs.YtjianickjahdnaaDoor
namespace Go.Proofs.YtjianickjahdnaaDoor
open Go.RowKit Go.ChangeShapes
set_option linter.unusedVariables false
set_option linter.unusedSimpArgs false

theorem starE : "*" ++ "errors.errorString" = "*errors.errorString" := by decide
theorem rowE (u : TypeId) (h : Tryd.prog.typeName? 3 u = some "*errors.errorString") : u = 146 :=
  typeName_ptr_named (nm := "errors.errorString") (by rw [starE]; kernel_rfl) (by kernel_rfl) (by decide) u (by rw [starE]; exact h)
theorem pow_datum : (Rows.laid_internal_strconv_uint64pow10 : DataW Unit) = Lib.tabData .u64 Lib.pow10Tab := by kernel_rfl
set_option maxRecDepth 100000 in
theorem tabs_of_laid {W : World} (h : laidMetH Tryd.prog Rows.heapBeginsRow.laid W) : Tabs W := by
  rw [MakeChecks.laidMetH_plain _ _ _ (by kernel_rfl)] at h
  have h1 : laidMet Tryd.prog (("internal/strconv.uint64pow10", Rows.laid_internal_strconv_uint64pow10) :: _) W := h.tail.tail
  rw [pow_datum] at h1
  obtain ⟨a1, t1, hv1, -⟩ := laid_sentinel (g := (Tryd.prog.globalNamed "strconv.ErrRange").getD 0) h1.tail.tail (by kernel_rfl) (by kernel_rfl) Tryd.underlying97 rowE Tryd.underlying146 Tryd.underlying148 rfl rfl Tryd.underlying9 (by kernel_rfl) (by kernel_rfl)
  obtain ⟨a0, t0, hv0, -⟩ := laid_sentinel (g := (Tryd.prog.globalNamed "strconv.ErrSyntax").getD 0) h1.tail.tail.tail (by kernel_rfl) (by kernel_rfl) Tryd.underlying97 rowE Tryd.underlying146 Tryd.underlying148 rfl rfl Tryd.underlying9 (by kernel_rfl) (by kernel_rfl)
  exact ⟨Lib.tabIs_of_head (g := (Tryd.prog.globalNamed "internal/strconv.uint64pow10").getD 0) (by kernel_rfl) (by kernel_rfl) Tryd.underlying138 Tryd.underlying108 (by kernel_rfl) (by kernel_rfl) h1, ⟨_, _, hv0⟩, ⟨_, _, hv1⟩⟩
end Go.Proofs.YtjianickjahdnaaDoor
namespace Go.Proofs.YtjianickjahdnaaDoor
set_option linter.unusedVariables false
open Go.ChangeShapes Go.WideShapes Go.ChangeAt Go.RowKit

theorem trod_lengths {P : Program} {H : Type} {enc : TypeId × Value → H} {W : World} : ∀ (ts : List TypeId) (vs : List Value) (ds : List (DataW H)) (ps : List MemPlace), DataW.TrodAll enc P W 0 (fun _ => true) true ts vs ds ps → ds.length = ts.length := by
  intro ts
  induction ts with
  | nil => intro vs ds ps h; cases vs <;> cases ds <;> first | rfl | exact h.elim
  | cons t ts ih => intro vs ds ps h; cases vs <;> cases ds <;> first | exact h.elim | (obtain ⟨_, _, _, h2, _⟩ := h; simp [ih _ _ _ h2])

/-- A law's contract lifted to its row, over listed variables. -/
theorem law_liftD {C : Checked} {os : Os} {f : FuncId} {fn : Func} {s : ChangeSpec} {H : Type} {enc : TypeId × Value → H} {tb : TypeId} {F : Stop.Interp} {laid : List (String × DataW Unit)} (started : os.Started)
    (own : ownKnob C.prog.godebug = none) (hl : laidOutB C.prog = true) (noInit : C.prog.inits.idxOf? f = none) (hfn : C.prog.funcs[f]? = some fn) (hts : rowed C.prog fn.params.toList = true) (hres : fn.resultTypes = #[tb]) (hbool : C.prog.underlying tb = some .bool) (hvars : s.vars = [])
    (hargs : ∀ ds : List (DataW H), ds.length = fn.params.toList.length → s.fn H ds = { results := [.lit (.bool true)], args := ds })
    (witness : ∃ (w : World) (tape : Tape) (i : Input), w.os = os ∧ (w.forCall tape i).Shaped C.prog ∧ i.vars = [] ∧ Input.okWide C.prog (w.forCall tape i) .any w.heap.size f i ∧
      (OpenSpec.ofChange s).preRow enc C.prog fn [] false laid (w.forCall tape i).memory i.args ∧ Assume.holds {} C.prog (lone (Frame.enter C.prog f i.args .normal) [] (w.forCall tape i)))
    (core : ∀ (W : World) (base : Nat) (vs : List Value) (ds : List (DataW H)) (ps : List MemPlace), (∀ (j : Nat) t v, fn.params.toList[j]? = some t → vs[j]? = some v → Value.okWide C.prog W .any base t v) →
      DataW.TrodAll enc C.prog W 0 (fun _ => true) true fn.params.toList vs ds ps → (DataW.weightsEach C.prog fn.params.toList ds).all (· ≤ reachBytes) = true → laidMetH C.prog laid W →
      Calls C.prog f vs.toArray W fun e W' => e = .returned (.bool true) ∧ Below W.heap.size W W') :
    ReturnsInHanded {} C os f .any ((OpenSpec.ofChange s).preRow enc C.prog fn [] false laid) (((OpenSpec.ofChange s).at F).post enc C.prog fn false true false false) := by
  refine returnsInHanded_of_row (C := C) (s := OpenSpec.ofChange s) own started noInit hfn witness ?_
  intro W base args ds gs before hval hW _ _ hsz hL _ _
  have hW' : DataW.Whole enc C.prog fn.params.toList s.vars false W args.toList ds gs before := hW
  obtain ⟨p, q, hA, hV, rfl, hfz, hnd⟩ := hW'
  have hV' : DataW.TrodVars enc C.prog W (fun _ => true) s.vars gs q := hV
  rw [hvars] at hV'
  obtain ⟨rfl, rfl⟩ := trodVars_none hV'
  simp only [List.append_nil] at hsz
  have hlen : ds.length = fn.params.toList.length := trod_lengths _ _ _ _ hA
  have hvt : (OpenSpec.ofChange s).bare.plain.varTypes C.prog = [] := by simp [OpenSpec.ofChange, OpenSpec.bare, DataSpec.varTypes, ChangeSpec.plain, hvars]
  rw [hvt, List.append_nil] at hsz
  have := core W base args.toList ds p (fun j t v h1 h2 => hval j t v (by simpa using h1) (by simpa using h2)) hA hsz hL
  rw [Array.toArray_toList] at this
  refine this.mono fun e W' ⟨he, hb⟩ => ⟨_, he, ?_⟩
  exact (law_post (s := s) hl hts hres hbool hvars hW (by rw [List.append_nil]; exact hargs ds hlen) hb)

/-- The same for the second row (bulk at most 1048576). -/
theorem law_liftD_upto {C : Checked} {os : Os} {f : FuncId} {fn : Func} {s : ChangeSpec} {H : Type} {enc : TypeId × Value → H} {tb : TypeId} {F : Stop.Interp} {laid : List (String × DataW Unit)} (started : os.Started)
    (own : ownKnob C.prog.godebug = none) (hl : laidOutB C.prog = true) (noInit : C.prog.inits.idxOf? f = none) (hfn : C.prog.funcs[f]? = some fn) (hts : rowed C.prog fn.params.toList = true) (hres : fn.resultTypes = #[tb]) (hbool : C.prog.underlying tb = some .bool) (hvars : s.vars = [])
    (hargs : ∀ ds : List (DataW H), ds.length = fn.params.toList.length → s.fn H ds = { results := [.lit (.bool true)], args := ds })
    (witness : ∃ (w : World) (tape : Tape) (i : Input), w.os = os ∧ (w.forCall tape i).Shaped C.prog ∧ i.vars = [] ∧ Input.okWide C.prog (w.forCall tape i) .any w.heap.size f i ∧
      (Rows.OpenSpec.upto s).preRow enc C.prog fn [] false laid (w.forCall tape i).memory i.args ∧ Assume.holds {} C.prog (lone (Frame.enter C.prog f i.args .normal) [] (w.forCall tape i)))
    (core : ∀ (W : World) (base : Nat) (vs : List Value) (ds : List (DataW H)) (ps : List MemPlace), (∀ (j : Nat) t v, fn.params.toList[j]? = some t → vs[j]? = some v → Value.okWide C.prog W .any base t v) →
      DataW.TrodAll enc C.prog W 0 (fun _ => true) true fn.params.toList vs ds ps → Rows.uptoBulkAll ds ≤ 1048576 → laidMetH C.prog laid W →
      Calls C.prog f vs.toArray W fun e W' => e = .returned (.bool true) ∧ Below W.heap.size W W') :
    ReturnsInHanded {} C os f .any ((Rows.OpenSpec.upto s).preRow enc C.prog fn [] false laid) (((Rows.OpenSpec.upto s).at F).post enc C.prog fn false true false false) := by
  refine returnsInHanded_of_row (C := C) (s := Rows.OpenSpec.upto s) own started noInit hfn witness ?_
  intro W base args ds gs before hval hW _ hk _ hL _ _
  have hW' : DataW.Whole enc C.prog fn.params.toList s.vars false W args.toList ds gs before := hW
  obtain ⟨p, q, hA, hV, rfl, hfz, hnd⟩ := hW'
  have hV' : DataW.TrodVars enc C.prog W (fun _ => true) s.vars gs q := hV
  rw [hvars] at hV'
  obtain ⟨rfl, rfl⟩ := trodVars_none hV'
  have hk2 := hk Rows.uptoSmall rfl
  simp only [List.append_nil] at hk2
  have hlen : ds.length = fn.params.toList.length := trod_lengths _ _ _ _ hA
  have := core W base args.toList ds p (fun j t v h1 h2 => hval j t v (by simpa using h1) (by simpa using h2)) hA (of_decide_eq_true hk2) hL
  rw [Array.toArray_toList] at this
  refine this.mono fun e W' ⟨he, hb⟩ => ⟨_, he, ?_⟩
  exact (law_post (s := s) hl hts hres hbool hvars hW (by rw [List.append_nil]; exact hargs ds hlen) hb)
end Go.Proofs.YtjianickjahdnaaDoor
namespace Go.Proofs.YtjianickjahdnaaDoor
open Go.RowKit Go.ChangeShapes Go.WideShapes Go.ChangeAt
open Go.ChangeMaps (open_string shut_string)
set_option linter.unusedVariables false
set_option linter.unusedSimpArgs false

theorem heapArrays_core (v : Value) (b : Int) (w : World) (hx : ∃ xs : List Int, ArgRow w v (xs.map (Value.int .u8)) ∧ ∀ z ∈ xs, IntKind.u8.min ≤ z ∧ z ≤ IntKind.u8.max) (hb : (Lit.int .u8 b).wf = true) (HT : Tabs w) :
    Calls Tryd.prog 8 #[v, .int .u8 b] w fun e w' => e = .returned (.bool true) ∧ Below w.heap.size w w' := by
  obtain ⟨xs, h1, h2⟩ := hx
  have q1 : IntKind.u8.min = 0 := by decide
  have q2 : IntKind.u8.max = 255 := by decide
  have hw := int_of_wf hb
  rw [q1, q2] at hw
  rw [q1, q2] at h2
  obtain ⟨n, rfl, hn⟩ : ∃ n : Nat, b = (n : Int) ∧ n < 256 := ⟨b.toNat, by omega, by omega⟩
  by_cases hl : 30 < xs.length
  · exact heapArrays_none v xs n w h1 HT hl
  · exact heapArrays_some v xs n w h1 h2 hn HT hl
set_option maxRecDepth 100000 in
theorem heapArrays_laid (os : Os) : laidMetH Tryd.prog Rows.heapArraysRow.laid ((World.laidAll Tryd.prog os Rows.heapArraysRow.laid).forCall (fun _ _ => 0) ⟨#[], #[.slice none 0 0, .int .u8 0], []⟩).memory := by
  rw [MakeChecks.laidMetH_plain _ _ _ (by kernel_rfl)]
  exact laidMet_laidAll _ (by kernel_rfl) (by kernel_rfl)
set_option maxRecDepth 100000 in
theorem heapArrays_lifted (os : Os) (started : os.Started) (H : Type) (enc : TypeId × Value → H) (F : Stop.Interp) :
    ReturnsInHanded {} Tryd.checked os 8 .any ((OpenSpec.ofChange Rows.heapArraysSpec).preRow enc Tryd.prog Tryd.f8 [] false Rows.heapArraysRow.laid) (((OpenSpec.ofChange Rows.heapArraysSpec).at F).post enc Tryd.prog Tryd.f8 false true false false) := by
  obtain ⟨places, hx⟩ : ∃ places, DataW.whole enc Tryd.prog ((World.laidAll Tryd.prog os Rows.heapArraysRow.laid).forCall (fun _ _ => 0) ⟨#[], #[.slice none 0 0, .int .u8 0], []⟩).memory Tryd.f8.params.toList [] false (#[.slice none 0 0, .int .u8 0] : Array Value).toList 8 = some ([.nil, .lit (.int .u8 0)], [], places) := ⟨[], by kernel_rfl⟩
  refine law_liftD (C := Tryd.checked) (s := Rows.heapArraysSpec) (tb := 4) started Tryd.own Tryd.laidOut (by kernel_rfl) Tryd.func8 (by kernel_rfl) rfl Tryd.underlying4 rfl ?_
    (witness_row_at (enc := enc) (C := Tryd.checked) false (World.laidAll Tryd.prog os Rows.heapArraysRow.laid) #[.slice none 0 0, .int .u8 0] (World.laidAll_os _ _ _) (by kernel_rfl) (by kernel_rfl) (by kernel_rfl)
      (OpenSpec.preRow_of_cond 8 hx (by kernel_rfl) (fun k hk => by cases hk) (by kernel_rfl) (heapArrays_laid os))) ?_
  · intro ds h
    match ds, h with
    | [_, _], _ => rfl
  · intro W base vs ds ps hval hA hsz hL
    have hp : Tryd.f8.params.toList = [68, 5] := by rw [Tryd.params8]
    rw [hp] at hval hA hsz
    obtain ⟨v0, vs0, d0, ds0, p0, q0, rfl, rfl, rfl, h0, r0⟩ := trodAll_cons hA
    obtain ⟨v1, vs1, d1, ds1, p1, q1, rfl, rfl, rfl, h1, r1⟩ := trodAll_cons r0
    obtain ⟨rfl, rfl, rfl⟩ := trodAll_nil r1
    obtain ⟨a0, w0⟩ := open_intRow Tryd.underlying68 Tryd.underlying5 (by kernel_rfl) (hval 0 68 v0 rfl rfl) h0
    obtain ⟨a1, rfl, rfl, rfl, w1⟩ := open_int Tryd.underlying5 (hval 1 5 v1 rfl rfl) h1
    exact heapArrays_core v0 a1 W ⟨a0, w0.1, w0.2.1⟩ w1 (tabs_of_laid hL)

theorem heapArrays_said : Rows.HeapArraysSaid :=
  OpenClaim.holds_of_cond 8 Tryd.f8 rfl rfl rfl rfl rfl rfl rfl ⟨rfl, rfl, rfl, rfl, rfl⟩ rfl rfl rfl rfl rfl (by kernel_rfl) Tryd.func8 (by kernel_rfl)
    (of_decide_eq_true (by kernel_rfl)) (by unfold Func.isWrapper; first | (rw [if_pos (by decide +kernel)]; kernel_rfl) | (rw [if_neg (by decide +kernel)]; exact ⟨rfl, rfl⟩))
    (fun os started H enc _ F => by rw [OpenClaim.pre_eq_preRow]; exact heapArrays_lifted os started H enc F)
theorem heapArrays_plain (f : FuncId) (fn : Func) (hf : Tryd.pinned.checked.prog.funcNamed "knapsack/knapsacklaw31.HeapArrays" = some f) (hfn : Tryd.pinned.checked.prog.funcs[f]? = some fn) :
    true = Tryd.pinned.checked.prog.looks [] ∧ ∀ (j : Nat) t, fn.params[j]? = some t → Tryd.pinned.checked.prog.wantsStandIn t = false := by
  obtain rfl : f = 8 := Option.some.inj ((show Tryd.prog.funcNamed "knapsack/knapsacklaw31.HeapArrays" = some 8 by kernel_rfl).symm.trans hf) |>.symm
  obtain rfl : fn = Tryd.f8 := (Option.some.inj (Tryd.func8.symm.trans hfn)).symm
  refine ⟨by kernel_rfl, fun j t ht => ?_⟩
  rw [Tryd.params8] at ht
  have hm : t ∈ [68, 5] := by simpa using Array.mem_of_getElem? ht
  have hall : ([68, 5].all fun u => !Tryd.prog.wantsStandIn u) = true := by kernel_rfl
  exact (show Tryd.prog.wantsStandIn t = false by simpa using List.all_eq_true.1 hall t hm)
/-- The tied card. -/
theorem heapArrays_holds : Rows.HeapArraysCardSaid :=
  Claim7.holds_tied_plain_at .later [] _ _ _ _ heapArrays_said (fun _ h => by cases h) (by kernel_rfl) (fun _ h => by cases h) heapArrays_row_tie rfl ⟨rfl, rfl⟩ (by kernel_rfl) rfl heapArrays_plain (by kernel_rfl)
#print axioms heapArrays_holds
end Go.Proofs.YtjianickjahdnaaDoor
