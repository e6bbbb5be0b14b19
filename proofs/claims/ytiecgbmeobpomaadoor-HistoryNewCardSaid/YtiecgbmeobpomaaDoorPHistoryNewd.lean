/-
  Plain arithmetic of layer 1 (codec): numbers in base 128, zigzag, the checksum. No program in sight.
  A region that draws its order, whose operations read and whose callees may make memory but change nothing old: walked once, in the order of the text.
  The bytes of a message by the reference of layer 47: what they are, and that two equal messages are the same.
  The reference's Encode; two equal messages are the same.
  The sort, search and delete of integers, laid over this program (printed by the shelf command).
  Sort, search and delete on rows of integers of one's own.
  History.clean, sleep: the pages that sleep.
  The operations of a history, plainly.
  slices.DeleteFunc with clean's closure; History.clean, History.sleep.
-/
import Derived.KernelRfl
import Derived.Test.YtiecgbmeobpomaaDoorPHistoryNewa
import Derived.Deep.QuietTactic
import Derived.BigQuiet
import Derived.Test.YtiecgbmeobpomaaDoorPHistoryNewb
import Derived.Lib.Strings
import Derived.Shelf.Sort.Plain
import Derived.Shelf.Slices.Turned
import Derived.Ground.Names2Prog
import Derived.Shelf.Slices.SearchI
import Derived.Shelf.Slices.Delete
import Derived.Shelf.Slices.In.SortNone
import Derived.Shelf.Slices.Empties
import Derived.Test.YtiecgbmeobpomaaDoorProg
import Derived.Test.YtiecgbmeobpomaaDoorPHistoryNewc
namespace Go.Proofs.YtiecgbmeobpomaaDoor.Kn
set_option linter.unusedVariables false

/-- One bit of the checksum's register. -/
def crcStep (r : Nat) : Nat := if r % 2 = 1 then (r / 2) ^^^ 3988292384 else r / 2
def crcSteps : Nat → Nat → Nat
  | 0, r => r
  | k + 1, r => crcStep (crcSteps k r)
def crcByte (r : Nat) (b : UInt8) : Nat := crcSteps 8 (r ^^^ b.toNat)
def crcReg (l : List UInt8) : Nat := l.foldl crcByte 4294967295
def crc (l : List UInt8) : Nat := 4294967295 - crcReg l

theorem crcStep_lt {r : Nat} (h : r < 4294967296) : crcStep r < 4294967296 := by
  unfold crcStep
  split
  · exact Nat.xor_lt_two_pow (n := 32) (by omega) (by omega)
  · omega
theorem crcSteps_lt {r : Nat} (h : r < 4294967296) : ∀ k, crcSteps k r < 4294967296
  | 0 => h
  | k + 1 => crcStep_lt (crcSteps_lt h k)
theorem crcByte_lt {r : Nat} (b : UInt8) (h : r < 4294967296) : crcByte r b < 4294967296 :=
  crcSteps_lt (Nat.xor_lt_two_pow (n := 32) h (by have := b.toNat_lt; omega)) 8
theorem foldl_crc_lt (l : List UInt8) : ∀ r, r < 4294967296 → l.foldl crcByte r < 4294967296 := by
  induction l with
  | nil => intro r h; exact h
  | cons b l ih => intro r h; exact ih _ (crcByte_lt b h)
theorem crcReg_lt (l : List UInt8) : crcReg l < 4294967296 := foldl_crc_lt l _ (by omega)
theorem crc_lt (l : List UInt8) : crc l < 4294967296 := by unfold crc; omega
theorem crcReg_snoc (l : List UInt8) (b : UInt8) : crcReg (l ++ [b]) = crcByte (crcReg l) b := by
  simp [crcReg, List.foldl_append]

theorem xor_ones (k r : Nat) (h : r < 2 ^ k) : (2 ^ k - 1) ^^^ r = 2 ^ k - 1 - r := by
  apply Nat.eq_of_testBit_eq
  intro i
  rw [Nat.testBit_xor, Nat.testBit_two_pow_sub_one]
  rw [show 2 ^ k - 1 - r = 2 ^ k - (r + 1) from by omega, Nat.testBit_two_pow_sub_succ h]
  by_cases hi : i < k
  · simp [hi]
  · have : r.testBit i = false := Nat.testBit_lt_two_pow (Nat.lt_of_lt_of_le h (Nat.pow_le_pow_right (by omega) (by omega)))
    simp [hi, this]
theorem xor_max (r : Nat) (h : r < 4294967296) : 4294967295 ^^^ r = 4294967295 - r := xor_ones 32 r h
theorem xor_max64 (r : Nat) (h : r < 18446744073709551616) : 18446744073709551615 ^^^ r = 18446744073709551615 - r := xor_ones 64 r h

/-- A number in base 128, the lowest digit first. -/
def enc (n : Nat) : List UInt8 := if n < 128 then [UInt8.ofNat n] else UInt8.ofNat (128 + n % 128) :: enc (n / 128)
termination_by n
decreasing_by omega

def zig (n : Int) : Nat := if 0 ≤ n then (2 * n).toNat else (-2 * n - 1).toNat
def unzig (m : Nat) : Int := if m % 2 = 0 then ((m / 2 : Nat) : Int) else -((m / 2 : Nat) : Int) - 1

theorem zig_lt {n : Int} (h1 : -9223372036854775808 ≤ n) (h2 : n < 9223372036854775808) : zig n < 18446744073709551616 := by unfold zig; split <;> omega
theorem enc_small {n : Nat} (h : n < 128) : enc n = [UInt8.ofNat n] := by rw [enc, if_pos h]
theorem enc_big {n : Nat} (h : 128 ≤ n) : enc n = UInt8.ofNat (128 + n % 128) :: enc (n / 128) := by rw [enc, if_neg (by omega)]
theorem enc_pos (n : Nat) : 0 < (enc n).length := by rw [enc]; split <;> simp
theorem enc_len : ∀ (k n : Nat), n < 128 ^ k → (enc n).length ≤ max k 1 := by
  intro k
  induction k with
  | zero => intro n h; rw [enc_small (by omega)]; simp
  | succ k ih =>
    intro n h
    by_cases hn : n < 128
    · rw [enc_small hn]; simp
    · rw [enc_big (by omega), List.length_cons]
      cases k with
      | zero => simp at h; omega
      | succ k =>
        have := ih (n / 128) (by rw [Nat.div_lt_iff_lt_mul (by omega)]; rw [Nat.pow_succ] at h; exact h)
        omega
theorem enc_len10 {n : Nat} (h : n < 18446744073709551616) : (enc n).length ≤ 10 := by
  have := enc_len 10 n (Nat.lt_of_lt_of_le h (by decide))
  omega

/-- The number at the head of a list, from its digit i on. -/
def numAt : List UInt8 → Nat → Nat → Option (Nat × Nat)
  | [], _, _ => none
  | c :: r, i, acc =>
    if 10 ≤ i then none
    else if i = 9 ∧ 1 < c.toNat then none
    else if c.toNat < 128 then (if c.toNat = 0 ∧ 0 < i then none else some (acc + c.toNat % 128 * 2 ^ (7 * i), i + 1))
    else numAt r (i + 1) (acc + c.toNat % 128 * 2 ^ (7 * i))
def num (l : List UInt8) : Option (Nat × Nat) := numAt l 0 0
theorem numAt_bounds (l : List UInt8) : ∀ (i acc n k : Nat), numAt l i acc = some (n, k) → acc < 2 ^ (7 * i) → i < k ∧ k ≤ i + l.length ∧ k ≤ 10 ∧ n < 18446744073709551616 := by
  induction l with
  | nil => intro i acc n k h; simp [numAt] at h
  | cons c r ih =>
    intro i acc n k h hacc
    have h3 : c.toNat % 128 * 2 ^ (7 * i) ≤ 127 * 2 ^ (7 * i) := Nat.mul_le_mul_right _ (by omega)
    have hlt : acc + c.toNat % 128 * 2 ^ (7 * i) < 2 ^ (7 * (i + 1)) := by
      rw [Nat.mul_succ, Nat.pow_add]; omega
    rw [numAt] at h
    split at h
    · cases h
    · split at h
      · cases h
      · rename_i h10 h9
        split at h
        · split at h
          · cases h
          · simp only [Option.some.injEq, Prod.mk.injEq] at h
            obtain ⟨rfl, rfl⟩ := h
            refine ⟨by omega, by simp only [List.length_cons]; omega, by omega, ?_⟩
            by_cases hi : i = 9
            · subst hi
              have : c.toNat % 128 ≤ 1 := by omega
              have h4 : c.toNat % 128 * 2 ^ (7 * 9) ≤ 1 * 2 ^ (7 * 9) := Nat.mul_le_mul_right _ this
              exact Nat.lt_of_lt_of_le (Nat.add_lt_add_of_lt_of_le hacc h4) (by decide)
            · exact Nat.lt_of_lt_of_le hlt (Nat.le_trans (Nat.pow_le_pow_right (by omega) (show 7 * (i + 1) ≤ 63 by omega)) (by decide))
        · have := ih _ _ _ _ h hlt
          simp only [List.length_cons]
          omega
theorem num_bounds {l : List UInt8} {n k : Nat} (h : num l = some (n, k)) : 0 < k ∧ k ≤ l.length ∧ k ≤ 10 ∧ n < 18446744073709551616 := by
  have := numAt_bounds l 0 0 n k h (by decide)
  omega
/-- What number returns. -/
def numOf (l : List UInt8) : Nat × Nat := (num l).getD (0, 0)
theorem numOf_bounds (l : List UInt8) : (numOf l).2 ≤ l.length ∧ (numOf l).2 ≤ 10 ∧ (numOf l).1 < 18446744073709551616 := by
  unfold numOf
  cases h : num l with
  | none => simp
  | some p => have := num_bounds (n := p.1) (k := p.2) h; simp; omega

end Go.Proofs.YtiecgbmeobpomaaDoor.Kn
namespace Go.Proofs.YtiecgbmeobpomaaDoor
open Go.RowKit
set_option linter.unusedVariables false

/-- A world behind w in which all that was there is as it was. -/
structure Later (w : World) where
  at_ : World
  chg : Chg (fun _ => False) w at_
instance (w : World) : Nonempty (Later w) := ⟨⟨w, .refl _ _⟩⟩
theorem Later.cell {w : World} {a : Addr} {v : Value} (h : w.cell? a = some v) : ∀ x : Later w, x.at_.cell? a = some v := fun x => x.chg.cell h
theorem wp_region_later {P : Program} {id : Nat} {Q : Exit → Act → World → Prop} {a : Act} {w : World} {l : List Oper} (hm : P.follows .mixedOrders = true) (hB : Region.lexB .any l.toArray = true)
    (h : wpQuiet P l.toArray (fun w' => ∃ x : Later w, w' = x.at_) (fun a' => ∀ w', (∃ x : Later w, w' = x.at_) → Q .normal a' w') l a) : (Code.region id l.toArray true).wp P Q a w :=
  wp_region_quiet (C := fun w' => ∃ x : Later w, w' = x.at_) hm hB ⟨⟨w.drew, (Chg.refl _ w).drewR⟩, rfl⟩ (by simpa using h)
/-- A callee within such a region. -/
theorem Later.call {P : Program} {f : FuncId} {args : Array Value} {w : World} {x : Later w} {v : Value}
    (h : Calls P f args x.at_ fun e w' => e = .returned v ∧ Chg (fun _ => False) x.at_ w') : Calls P f args x.at_ fun e w'' => e = .returned v ∧ ∃ y : Later w, w'' = y.at_ :=
  h.mono fun _ w' ⟨he, hc⟩ => ⟨he, ⟨w', x.chg.trans' hc⟩, rfl⟩
end Go.Proofs.YtiecgbmeobpomaaDoor
namespace Go.Proofs.YtiecgbmeobpomaaDoor
open Go.RowKit
set_option linter.unusedVariables false
set_option linter.unusedSimpArgs false

/-- A string with these bytes. -/
def bs (l : List UInt8) : ByteArray := ⟨l.toArray⟩
theorem bs_size (l : List UInt8) : (bs l).size = l.length := by simp [bs, ByteArray.size]
theorem bs_data (l : List UInt8) : (bs l).data.toList = l := by simp [bs]
theorem bs_ext {a : ByteArray} {l : List UInt8} (h : a.data.toList = l) : a = bs l := ByteArray.ext (by rw [← h]; simp [bs])
theorem app_data (a b : ByteArray) : (a ++ b).data.toList = a.data.toList ++ b.data.toList := by rw [ByteArray.data_append]; simp
def intL (n : Int) : List UInt8 := Kn.enc (Kn.zig n)
def strL (s : ByteArray) : List UInt8 := Kn.enc s.size ++ s.data.toList
def nodL (n : Nod) : List UInt8 := intL n.kind ++ intL n.int ++ strL n.str ++ Kn.enc n.keys.length ++ n.keys.flatMap strL ++ Kn.enc n.kids.length ++ n.kids.flatMap intL
/-- The bytes of a message. -/
def encL (m : Msg) : List UInt8 := Kn.enc m.nodes.length ++ m.nodes.flatMap nodL ++ Kn.enc m.ports.length ++ m.ports.flatMap intL
structure EncN (n : Nod) : Prop where
  kind : -9223372036854775808 ≤ n.kind ∧ n.kind ≤ 9223372036854775807
  int : -9223372036854775808 ≤ n.int ∧ n.int ≤ 9223372036854775807
  str : n.str.size ≤ 140737488355328
  keys : n.keys.length ≤ 100 ∧ ∀ s ∈ n.keys, s.size ≤ 140737488355328
  kids : n.kids.length ≤ 100 ∧ ∀ k ∈ n.kids, -9223372036854775808 ≤ k ∧ k ≤ 9223372036854775807
/-- Small enough for its bytes. -/
structure EncOk (m : Msg) : Prop where
  nodes : m.nodes.length ≤ 100 ∧ ∀ n ∈ m.nodes, EncN n
  ports : m.ports.length ≤ 100 ∧ ∀ k ∈ m.ports, -9223372036854775808 ≤ k ∧ k ≤ 9223372036854775807
theorem enc_one (c : Int) (W : World) : (convert 136 9 (.slice (some ⟨W.heap.size, 0, none⟩) 1 1)).run Tryd.prog (W.alloc (.cells #[.int .u8 c] 5)) = .ok (.string ⟨#[UInt8.ofNat c.toNat]⟩) (W.alloc (.cells #[.int .u8 c] 5)) :=
  run_convert_bytes_arg (P := Tryd.prog) _ 136 5 Tryd.underlying136 Tryd.underlying5 W.heap.size 0 1 1 [c] rfl (by
    intro i hi
    match i, hi with
    | 0, _ => exact cell_of_block (alloc_block W _) rfl) 9 Tryd.underlying9
set_option maxHeartbeats 400000 in
set_option maxRecDepth 100000 in
theorem refUint_any (n : Nat) (hn : n < 18446744073709551616) (w : World) :
    Calls Tryd.prog 84 #[.int .u64 n] w fun e w' => e = .returned (.string (bs (Kn.enc n))) ∧ Chg (fun _ => False) w w' := by
  have hone := fun W c => enc_one c W
  have hlen := Kn.enc_len10 hn
  go_enter Tryd.func84, Tryd.ntmps84
  go_wp2_with fail
  go_loopw [0, 3] (fun n' s' wr => ∃ (m : Nat) (t : ByteArray), n' = .int .u64 m ∧ m < 18446744073709551616 ∧ s' = .string t ∧ t.size ≤ 10 ∧ Hid (t.data.toList ++ Kn.enc m = Kn.enc n) ∧ Chg (fun _ => False) w wr) (fun n' _ _ => (intOf n').toNat)
  case atStart => exact ⟨n, ByteArray.empty, rfl, hn, rfl, by decide, rfl, Chg.refl _ _⟩
  case round =>
    obtain ⟨m, t, rfl, hm, rfl, ht, HE, hch⟩ := hrel
    have hp := Kn.enc_pos m
    have hl : t.size + (Kn.enc m).length ≤ 10 := by
      have := congrArg List.length HE.out
      rw [List.length_append] at this
      have h2 : t.data.toList.length = t.size := by simp
      omega
    by_cases h128 : 128 ≤ m
    · have HB := Lib.hid (Kn.enc_big h128)
      go_wp2_with fail
      refine ⟨⟨m / 128, _, by simp, by omega, rfl, ?_, ?_, hch.allocR _⟩, by simp [intOf]; omega⟩
      · rw [ByteArray.size_append]
        have : (⟨#[128 + UInt8.ofNat (m % 128)]⟩ : ByteArray).size = 1 := rfl
        omega
      · show _ = _
        rw [← HE.out, HB.out, ByteArray.data_append]
        simp
    · have HB := Lib.hid (Kn.enc_small (n := m) (by omega))
      go_wp2_with fail
      go_ret
      refine ⟨?_, hch.allocR _⟩
      show Ending.returned (.string _) = _
      refine congrArg (fun x => Ending.returned (.string x)) (bs_ext ?_)
      rw [ByteArray.data_append, ← HE.out, HB.out]
      simp
set_option maxHeartbeats 400000 in
theorem zigzag_any (n : Int) (h1 : -9223372036854775808 ≤ n) (h2 : n < 9223372036854775808) (w : World) :
    Calls Tryd.prog 85 #[.int .i64 n] w fun e w' => e = .returned (.int .u64 (Kn.zig n)) ∧ w = w' := by
  have ri : ∀ {k : IntKind} {a b : Int}, a = b → Ending.returned (.int k a) = .returned (.int k b) := fun h => by rw [h]
  by_cases h : 0 ≤ n
  · have hz : (Kn.zig n : Int) = n * 2 := by unfold Kn.zig; rw [if_pos h]; omega
    have HZ := Lib.hid hz
    clear hz
    go_enter Tryd.func85, Tryd.ntmps85
    go_wp2_with fail
    go_ret
    exact ⟨ri HZ.out.symm, rfl⟩
  · have hz : (Kn.zig n : Int) = -(n + 1) * 2 + 1 := by unfold Kn.zig; rw [if_neg h]; omega
    have HZ := Lib.hid hz
    clear hz
    go_enter Tryd.func85, Tryd.ntmps85
    go_wp2_with fail
    go_ret
    refine ⟨ri ?_, rfl⟩
    rw [HZ.out]
set_option maxHeartbeats 400000 in
theorem length47_any (n : Nat) (hn : n ≤ 9223372036854775807) (w : World) :
    Calls Tryd.prog 64 #[.int .i64 n] w fun e w' => e = .returned (.string (bs (Kn.enc n))) ∧ Chg (fun _ => False) w w' := by
  have h0 : (0 : Int) ≤ (n : Int) := by omega
  have h1 : (n : Int) < 18446744073709551616 := by omega
  have HU := Lib.hid (fun W => refUint_any n (by omega) W)
  have hw : IntKind.u64.wrap (n : Int) = (n : Int) := IntWalk.u64_in _ (by omega)
  clear hn
  go_enter Tryd.func64, Tryd.ntmps64
  go_wp2_with (go_at_call 84; refine (HU.out _).mono ?_; rintro _ w1 ⟨rfl, hc1⟩)
  go_ret
  exact ⟨rfl, hc1⟩
set_option maxHeartbeats 400000 in
theorem integer47_any (n : Int) (h1 : -9223372036854775808 ≤ n) (h2 : n ≤ 9223372036854775807) (w : World) :
    Calls Tryd.prog 65 #[.int .i64 n] w fun e w' => e = .returned (.string (bs (intL n))) ∧ Chg (fun _ => False) w w' := by
  have HZ := Lib.hid (fun W => zigzag_any n h1 (by omega) W)
  have HU := Lib.hid (fun W => refUint_any (Kn.zig n) (Kn.zig_lt h1 (by omega)) W)
  unfold intL
  generalize Kn.zig n = z at *
  go_enter Tryd.func65, Tryd.ntmps65
  go_wp2_with (first
    | (go_at_call 85; refine (HZ.out _).mono ?_; rintro _ w1 ⟨rfl, rfl⟩)
    | (go_at_call 84; refine (HU.out _).mono ?_; rintro _ w1 ⟨rfl, hc1⟩))
  go_ret
  exact ⟨rfl, hc1⟩
end Go.Proofs.YtiecgbmeobpomaaDoor
namespace Go.Proofs.YtiecgbmeobpomaaDoor
open Go.RowKit
set_option linter.unusedVariables false
set_option linter.unusedSimpArgs false

theorem intL_len {n : Int} (h : -9223372036854775808 ≤ n ∧ n ≤ 9223372036854775807) : (intL n).length ≤ 10 := Kn.enc_len10 (Kn.zig_lt h.1 (by omega))
theorem strL_len {s : ByteArray} (h : s.size ≤ 140737488355328) : (strL s).length ≤ 140737488355338 := by
  have := Kn.enc_len10 (n := s.size) (by omega)
  unfold strL
  rw [List.length_append]
  have h2 : s.data.toList.length = s.size := by simp
  omega
theorem flat_len {α : Type} {f : α → List UInt8} {B : Nat} : ∀ (l : List α), (∀ x ∈ l, (f x).length ≤ B) → (l.flatMap f).length ≤ l.length * B
  | [], _ => by simp
  | x :: l, h => by
    have h1 := flat_len l (fun y hy => h y (List.mem_cons_of_mem _ hy))
    have h2 := h x (List.mem_cons_self ..)
    simp only [List.flatMap_cons, List.length_append, List.length_cons]
    rw [Nat.succ_mul]
    omega
theorem flat_take {α : Type} {f : α → List UInt8} {l : List α} {k : Nat} (hk : k < l.length) : (l.take (k + 1)).flatMap f = (l.take k).flatMap f ++ f l[k] := by
  rw [List.take_succ_eq_append_getElem hk, List.flatMap_append]
  simp
/-- What stands ahead of a node's keys. -/
def hdL (n : Nod) : List UInt8 := intL n.kind ++ intL n.int ++ strL n.str ++ Kn.enc n.keys.length
theorem nodL_eq (n : Nod) : nodL n = hdL n ++ n.keys.flatMap strL ++ Kn.enc n.kids.length ++ n.kids.flatMap intL := rfl
def EBn : Nat := 20000000000000000
def EB : Nat := 2100000000000000000
theorem hdL_len {n : Nod} (h : EncN n) : (hdL n).length ≤ 140737488355368 := by
  have h1 := intL_len h.kind
  have h2 := intL_len h.int
  have h3 := strL_len h.str
  have h4 := Kn.enc_len10 (n := n.keys.length) (by have := h.keys.1; omega)
  unfold hdL
  simp only [List.length_append]
  omega
theorem keysL_len {n : Nod} (h : EncN n) (j : Nat) : ((n.keys.take j).flatMap strL).length ≤ 14073748835533800 := by
  have h1 := flat_len (f := strL) (B := 140737488355338) (n.keys.take j) (fun s hs => strL_len (h.keys.2 s (List.mem_of_mem_take hs)))
  have h2 : (n.keys.take j).length ≤ 100 := by have := h.keys.1; rw [List.length_take]; omega
  have h3 := Nat.mul_le_mul_right 140737488355338 h2
  omega
theorem kidsL_len {n : Nod} (h : EncN n) (j : Nat) : ((n.kids.take j).flatMap intL).length ≤ 1000 := by
  have h1 := flat_len (f := intL) (B := 10) (n.kids.take j) (fun s hs => intL_len (h.kids.2 s (List.mem_of_mem_take hs)))
  have h2 : (n.kids.take j).length ≤ 100 := by have := h.kids.1; rw [List.length_take]; omega
  omega
theorem nodL_len {n : Nod} (h : EncN n) : (nodL n).length ≤ EBn := by
  have h1 := hdL_len h
  have h2 := keysL_len h n.keys.length
  have h3 := kidsL_len h n.kids.length
  have h4 := Kn.enc_len10 (n := n.kids.length) (by have := h.kids.1; omega)
  rw [List.take_length] at h2 h3
  rw [nodL_eq]
  unfold EBn
  simp only [List.length_append]
  omega
theorem nodesL_len {m : Msg} (h : EncOk m) (j : Nat) : ((m.nodes.take j).flatMap nodL).length ≤ 2000000000000000000 := by
  have h1 := flat_len (f := nodL) (B := EBn) (m.nodes.take j) (fun s hs => nodL_len (h.nodes.2 s (List.mem_of_mem_take hs)))
  have h2 : (m.nodes.take j).length ≤ 100 := by have := h.nodes.1; rw [List.length_take]; omega
  have h3 := Nat.mul_le_mul_right EBn h2
  unfold EBn at h1 h3
  omega
theorem portsL_len {m : Msg} (h : EncOk m) (j : Nat) : ((m.ports.take j).flatMap intL).length ≤ 1000 := by
  have h1 := flat_len (f := intL) (B := 10) (m.ports.take j) (fun s hs => intL_len (h.ports.2 s (List.mem_of_mem_take hs)))
  have h2 : (m.ports.take j).length ≤ 100 := by have := h.ports.1; rw [List.length_take]; omega
  omega
/-- A string so far. -/
structure EncT (t : ByteArray) (l : List UInt8) : Prop where
  data : t.data.toList = l
  size : t.size ≤ EB
theorem EncT.of {t : ByteArray} {l : List UInt8} (h : t.data.toList = l) (hl : l.length ≤ EB) : EncT t l := ⟨h, by
  have : t.data.toList.length = t.size := by simp
  rw [← this, h]; exact hl⟩
theorem EncT.fit {t : ByteArray} {l : List UInt8} (h : EncT t l) {x : Nat} (hx : x ≤ 4000000000000000000) : ¬ 9223372036854775807 < t.size + x := by
  have := h.size
  unfold EB at this
  omega

set_option maxHeartbeats 6400000 in
set_option maxRecDepth 100000 in
theorem encode_any {D : Nat → Prop} (w : World) (sn sp : Option Addr) (nn cn np cp : Nat) (m : Msg) (hm : MsgAt D w (.slice sn nn cn) (.slice sp np cp) m) (ok : EncOk m) :
    Calls Tryd.prog 48 #[.agg #[.slice sn nn cn, .slice sp np cp]] w fun e w' => e = .returned (.string (bs (encL m))) ∧ Chg (fun _ => False) w w' := by
  obtain ⟨⟨rsN, hrl, hre, hrs⟩, hmp⟩ := hm
  have hnn : nn = rsN.length := by obtain ⟨_, _, e, -⟩ := hrs; cases e; rfl
  have hnp : np = m.ports.length := by obtain ⟨_, _, e, -⟩ := hmp; cases e; rfl
  have hnm : nn = m.nodes.length := hnn.trans hrl
  have hn100 : nn ≤ 100 := by rw [hnm]; exact ok.nodes.1
  have hp100 : np ≤ 100 := by rw [hnp]; exact ok.ports.1
  have HCA := Lib.hid (Chg.alloc (fun _ => False) w (.cells #[.slice sn nn cn, .slice sp np cp] 32))
  have HB := Lib.hid (alloc_block w (.cells #[.slice sn nn cn, .slice sp np cp] 32))
  have HRL := Lib.hid hrl
  have HRE := Lib.hid hre
  have HRS := Lib.hid hrs
  have HMP := Lib.hid hmp
  have HNN := Lib.hid hnn
  have HNP := Lib.hid hnp
  have HNM := Lib.hid hnm
  have HOK := Lib.hid ok
  have hnl := Kn.enc_len10 (n := nn) (by omega)
  have HNL := Lib.hid hnl
  have HLN := Lib.hid (fun W => length47_any nn (by omega) W)
  have HLP := Lib.hid (fun W => length47_any np (by omega) W)
  have HN100 := Lib.hid hn100
  have HP100 := Lib.hid hp100
  clear hrl hre hrs hmp hnn hnp hnm ok hnl hn100 hp100
  go_enter Tryd.func48, Tryd.ntmps48
  go_upto_region 1 with fail
  generalize w.alloc (.cells #[.slice sn nn cn, .slice sp np cp] 32) = w1 at *
  generalize w.heap.size = b1 at *
  have y0 := cell_of_block (i := 0) HB.out rfl
  simp only [List.getElem_toArray, List.getElem_cons_zero, List.getElem_cons_succ] at y0
  go_upto_region 2 with (go_at_call 64; refine (HLN.out _).mono ?_; rintro _ w2 ⟨rfl, hc2⟩; have HC2 := Lib.hid hc2; clear hc2)
  clear y0
  go_wp2_with fail
  go_loopw [3, 4] (fun s i wr => ∃ (k : Nat) (t : ByteArray), k ≤ nn ∧ s = .string t ∧ i = .int .i64 k ∧ Hid (t.data.toList = Kn.enc nn ++ (m.nodes.take k).flatMap nodL) ∧ Hid (Chg (fun _ => False) w1 wr)) (fun _ i _ => nn - (intOf i).toNat)
  case atStart => exact ⟨0, _, Nat.zero_le _, rfl, rfl, Lib.hid (by simp [bs_data]), HC2⟩
  case round =>
    clear HC2
    obtain ⟨k, t, hk, rfl, rfl, HT, HC⟩ := hrel
    have hb := HC.out.keep HB.out (fun x => x)
    have y0 := cell_of_block (i := 0) hb rfl
    have y1 := cell_of_block (i := 1) hb rfl
    simp only [List.getElem_toArray, List.getElem_cons_zero, List.getElem_cons_succ] at y0 y1
    clear hb
    by_cases hlt : k < nn
    · clear y1
      have k0 : (0 : Int) ≤ (k : Int) := by omega
      have k1 : (k : Int) < (nn : Int) := by omega
      have w64 : IntKind.i64.wrap ((k : Int) + 1) = ((k + 1 : Nat) : Int) := IntWalk.i64_in _ (by have := HN100.out; omega)
      have hkr : k < rsN.length := by rw [← HNN.out]; exact hlt
      have hkm : k < m.nodes.length := by rw [← HRL.out]; exact hkr
      obtain ⟨g, off, cn', hv1, -, -, hc1⟩ := HRS.out.at (by omega)
      have hat := HRE.out k hkr hkm
      have hen := HOK.out.nodes.2 _ (List.getElem_mem hkm)
      obtain ⟨xp, xc, hxk, -, -⟩ := hat.keys.val
      obtain ⟨yp, yc, hxd, -, -⟩ := hat.kids.val
      have hg : sn = some ⟨g, off, none⟩ := by injection hv1
      subst hg
      have hcel : ∀ c u, (rsN[k]).cells[c]? = some u → c < 5 → w.cell? ⟨g, off + k * 5 + c, none⟩ = some u := fun c u hu hcc => by
        rw [Nat.add_assoc]
        exact hc1 (k * 5 + c) u (by rw [flat_get _ 5 NodR.len rsN k c hkr hcc]; exact hu)
      have hrc : rsN[k].cells = [.int .i64 m.nodes[k].kind, .int .i64 m.nodes[k].int, .string m.nodes[k].str, .slice xp m.nodes[k].keys.length xc, .slice yp m.nodes[k].kids.length yc] := by
        unfold NodR.cells
        rw [hat.kind, hat.int, hat.str, hxk, hxd]
      rw [hrc] at hcel
      have hcw := HCA.out.trans' HC.out
      have e0 := hcw.cell (hcel 0 _ rfl (by omega))
      have e1 := hcw.cell (hcel 1 _ rfl (by omega))
      have e2 := hcw.cell (hcel 2 _ rfl (by omega))
      have e3 := hcw.cell (hcel 3 _ rfl (by omega))
      have e4 := hcw.cell (hcel 4 _ rfl (by omega))
      rw [Nat.add_zero] at e0
      have HNX : Hid (k + 1 ≤ nn) := Lib.hid hlt
      have hks := hat.keys
      have hds := hat.kids
      rw [hxk] at hks
      rw [hxd] at hds
      have HKS := Lib.hid hks
      have HDS := Lib.hid hds
      have HCW := Lib.hid hcw
      have HFL := Lib.hid (flat_take (f := nodL) hkm)
      have hpre := nodesL_len HOK.out k
      have HEN := Lib.hid hen
      generalize hL0 : Kn.enc nn ++ (m.nodes.take k).flatMap nodL = L0 at *
      have hl0 : L0.length ≤ 2000000000000000010 := by
        have := HNL.out
        rw [← hL0, List.length_append]
        omega
      have HL0 := Lib.hid hL0
      have HLL0 := Lib.hid hl0
      clear hk hlt hkr hv1 hc1 hat hxk hxd hcel hrc hcw hen hpre hL0 hl0 hks hds
      generalize m.nodes[k] = x at *
      clear hkm
      go_upto_region 6 with fail
      have g1 := alloc_block wr (.cells #[.int .i64 x.kind, .int .i64 x.int, .string x.str, .slice xp x.keys.length xc, .slice yp x.kids.length yc] 85)
      have HC5 := Lib.hid (HC.out.allocR (.cells #[.int .i64 x.kind, .int .i64 x.int, .string x.str, .slice xp x.keys.length xc, .slice yp x.kids.length yc] 85))
      have HG1 := Lib.hid g1
      clear g1 e0 e1 e2 e3 e4 y0
      generalize wr.alloc (.cells #[.int .i64 x.kind, .int .i64 x.int, .string x.str, .slice xp x.keys.length xc, .slice yp x.kids.length yc] 85) = w5 at *
      generalize wr.heap.size = b5 at *
      have m0 : ∀ z : Later w5, z.at_.cell? ⟨b5, 0, none⟩ = some (.int .i64 x.kind) := Later.cell (cell_of_block (i := 0) HG1.out rfl)
      have m1 : ∀ z : Later w5, z.at_.cell? ⟨b5, 1, none⟩ = some (.int .i64 x.int) := Later.cell (cell_of_block (i := 1) HG1.out rfl)
      have m2 : ∀ z : Later w5, z.at_.cell? ⟨b5, 2, none⟩ = some (.string x.str) := Later.cell (cell_of_block (i := 2) HG1.out rfl)
      have m3 : ∀ z : Later w5, z.at_.cell? ⟨b5, 3, none⟩ = some (.slice xp x.keys.length xc) := Later.cell (cell_of_block (i := 3) HG1.out rfl)
      obtain ⟨xa, hxa⟩ : ∃ s, s = bs (intL x.kind) := ⟨_, rfl⟩
      obtain ⟨xb, hxb⟩ : ∃ s, s = bs (intL x.int) := ⟨_, rfl⟩
      obtain ⟨xl, hxl⟩ : ∃ s, s = bs (Kn.enc x.str.size) := ⟨_, rfl⟩
      obtain ⟨xk, hxk⟩ : ∃ s, s = bs (Kn.enc x.keys.length) := ⟨_, rfl⟩
      have C1 : Hid (∀ W, Calls Tryd.prog 65 #[.int .i64 x.kind] W fun e w' => e = .returned (.string xa) ∧ Chg (fun _ => False) W w') := Lib.hid (by rw [hxa]; exact fun W => integer47_any _ HEN.out.kind.1 HEN.out.kind.2 W)
      have C2 : Hid (∀ W, Calls Tryd.prog 65 #[.int .i64 x.int] W fun e w' => e = .returned (.string xb) ∧ Chg (fun _ => False) W w') := Lib.hid (by rw [hxb]; exact fun W => integer47_any _ HEN.out.int.1 HEN.out.int.2 W)
      have C3 : Hid (∀ W, Calls Tryd.prog 64 #[.int .i64 (x.str.size : Int)] W fun e w' => e = .returned (.string xl) ∧ Chg (fun _ => False) W w') := Lib.hid (by rw [hxl]; exact fun W => length47_any _ (by have := HEN.out.str; omega) W)
      have C4 : Hid (∀ W, Calls Tryd.prog 64 #[.int .i64 (x.keys.length : Int)] W fun e w' => e = .returned (.string xk) ∧ Chg (fun _ => False) W w') := Lib.hid (by rw [hxk]; exact fun W => length47_any _ (by have := HEN.out.keys.1; omega) W)
      have HDA : Hid ((t ++ (xa ++ xb ++ xl ++ x.str ++ xk)).data.toList = L0 ++ hdL x) := Lib.hid (by rw [app_data, app_data, app_data, app_data, app_data, HT.out, hxa, hxb, hxl, hxk]; simp only [bs_data, hdL, strL, List.append_assoc])
      have hsz := congrArg List.length HDA.out
      have hhd := hdL_len HEN.out
      simp only [List.length_append, Array.length_toList] at hsz
      have hsz2 : (t ++ (xa ++ xb ++ xl ++ x.str ++ xk)).size = L0.length + (hdL x).length := hsz
      simp only [ByteArray.size_append] at hsz2
      have z1 : ¬ 9223372036854775807 < xa.size + xb.size := by have := HLL0.out; omega
      have z2 : ¬ 9223372036854775807 < (xa ++ xb).size + xl.size := by have := HLL0.out; simp only [ByteArray.size_append]; omega
      have z3 : ¬ 9223372036854775807 < (xa ++ xb ++ xl).size + x.str.size := by have := HLL0.out; simp only [ByteArray.size_append]; omega
      have z4 : ¬ 9223372036854775807 < (xa ++ xb ++ xl ++ x.str).size + xk.size := by have := HLL0.out; simp only [ByteArray.size_append]; omega
      have z5 : ¬ 9223372036854775807 < t.size + (xa ++ xb ++ xl ++ x.str ++ xk).size := by have := HLL0.out; simp only [ByteArray.size_append]; omega
      have HHD := Lib.hid hhd
      clear hsz hsz2 hhd hxa hxb hxl hxk
      refine wp_region_later (by kernel_rfl) (by kernel_rfl) ?_
      repeat (go_big_quiet_step ((first | (go_at_call 65; exact Later.call (C1.out _)) | (go_at_call 65; exact Later.call (C2.out _)) | (go_at_call 64; exact Later.call (C3.out _)) | (go_at_call 64; exact Later.call (C4.out _)))))
      refine wpQuiet_nil ?_
      rintro _ ⟨y, rfl⟩
      clear z1 z2 z3 z4 z5 m0 m1 m2 m3 C1 C2 C3 C4
      have HC6 := Lib.hid y.chg
      generalize y.at_ = w6 at *
      clear y
      generalize t ++ (xa ++ xb ++ xl ++ x.str ++ xk) = t6 at *
      clear HT
      have hn3 := cell_of_block (i := 3) (HC6.out.keep HG1.out (fun x => x)) rfl
      have hn4 := cell_of_block (i := 4) (HC6.out.keep HG1.out (fun x => x)) rfl
      simp only [List.getElem_toArray, List.getElem_cons_zero, List.getElem_cons_succ] at hn3 hn4
      have HN34 := Lib.hid (And.intro hn3 hn4)
      have HHL : Hid ((L0 ++ hdL x).length ≤ 2000140737488355378) := Lib.hid (by have := HLL0.out; have := HHD.out; rw [List.length_append]; omega)
      have hkl : (x.keys.length : Int) ≤ 100 := by have := HEN.out.keys.1; omega
      have hdl : (x.kids.length : Int) ≤ 100 := by have := HEN.out.kids.1; omega
      have HC56 := Lib.hid (HC5.out.trans' HC6.out)
      have HCW6 := Lib.hid (HCA.out.trans' HC56.out)
      clear hn3 hn4 HG1 HC6 HC5 HC HCW
      generalize hL1 : L0 ++ hdL x = L1 at *
      go_wp2_with fail
      go_loopw [3, 6] (fun s j wx => ∃ (i : Nat) (u : ByteArray), i ≤ x.keys.length ∧ s = .string u ∧ j = .int .i64 i ∧ Hid (u.data.toList = L1 ++ (x.keys.take i).flatMap strL) ∧ Hid (Chg (fun _ => False) w6 wx)) (fun _ j _ => x.keys.length - (intOf j).toNat)
      case atStart => exact ⟨0, _, Nat.zero_le _, rfl, rfl, Lib.hid (by rw [HDA.out]; simp), Lib.hid (Chg.refl _ _)⟩
      case round =>
        obtain ⟨i, u, hi, rfl, rfl, HU, HX⟩ := hrel
        have n3 := HX.out.cell HN34.out.1
        by_cases hil : i < x.keys.length
        · have i0 : (0 : Int) ≤ (i : Int) := by omega
          have i1 : (i : Int) < (x.keys.length : Int) := by omega
          have wi : IntKind.i64.wrap ((i : Int) + 1) = ((i + 1 : Nat) : Int) := IntWalk.i64_in _ (by omega)
          obtain ⟨gk, ko, ck, hvk, -, -, hck⟩ := HKS.out.at (by omega)
          simp only [Value.slice.injEq, true_and] at hvk
          obtain ⟨rfl, rfl⟩ := hvk
          have q0 := HX.out.cell (HCW6.out.cell (hck i (.string x.keys[i]) (by simp [strC, hil])))
          have hkey := HEN.out.keys.2 _ (List.getElem_mem hil)
          have HFK := Lib.hid (flat_take (f := strL) hil)
          have HNI : Hid (i + 1 ≤ x.keys.length) := Lib.hid hil
          have hpre := keysL_len HEN.out i
          have hus := congrArg List.length HU.out
          have hul : u.data.toList.length = u.size := by simp
          rw [List.length_append, hul] at hus
          have hsl := strL_len hkey
          generalize x.keys[i] = key at *
          clear hil hi hck
          obtain ⟨xn, hxn⟩ : ∃ s, s = bs (Kn.enc key.size) := ⟨_, rfl⟩
          have C5 : Hid (∀ W, Calls Tryd.prog 64 #[.int .i64 (key.size : Int)] W fun e w' => e = .returned (.string xn) ∧ Chg (fun _ => False) W w') := Lib.hid (by rw [hxn]; exact fun W => length47_any _ (by omega) W)
          have HDB : Hid ((u ++ (xn ++ key)).data.toList = L1 ++ (x.keys.take (i + 1)).flatMap strL) := Lib.hid (by rw [app_data, app_data, HU.out, HFK.out, hxn, bs_data, List.append_assoc]; rfl)
          have hxs : xn.size + key.size = (strL key).length := by
            unfold strL
            rw [hxn, bs_size, List.length_append]
            simp
          have z1 : ¬ 9223372036854775807 < xn.size + key.size := by omega
          have z2 : ¬ 9223372036854775807 < u.size + (xn ++ key).size := by have := HHL.out; rw [ByteArray.size_append]; omega
          clear hxs hsl hul hus hpre hkey hxn HU
          go_upto_region 10 with fail
          have m3 := Later.cell n3
          have mq := Later.cell q0
          clear n3 q0
          refine wp_region_later (by kernel_rfl) (by kernel_rfl) ?_
          repeat (go_big_quiet_step ((go_at_call 64; exact Later.call (C5.out _))))
          refine wpQuiet_nil ?_
          rintro _ ⟨y, rfl⟩
          have HXY := Lib.hid (HX.out.trans' y.chg)
          generalize y.at_ = wy at *
          clear z1 z2 m3 mq y C5
          go_wp2_with fail
          go_roundw
          case rel => exact ⟨i + 1, _, HNI.out, rfl, rfl, HDB, HXY⟩
          case measure => have := HNI.out; simp [intOf, wi]; omega
        · have i1 : ¬ (i : Int) < (x.keys.length : Int) := by omega
          rw [List.take_of_length_le (show x.keys.length ≤ i by omega)] at HU
          obtain ⟨xd, hxd⟩ : ∃ s, s = bs (Kn.enc x.kids.length) := ⟨_, rfl⟩
          have C6 : Hid (∀ W, Calls Tryd.prog 64 #[.int .i64 (x.kids.length : Int)] W fun e w' => e = .returned (.string xd) ∧ Chg (fun _ => False) W w') := Lib.hid (by rw [hxd]; exact fun W => length47_any _ (by omega) W)
          have hdd : (u ++ xd).data.toList = L1 ++ x.keys.flatMap strL ++ Kn.enc x.kids.length := by rw [app_data, HU.out, hxd, bs_data]
          have hkk := keysL_len HEN.out x.keys.length
          rw [List.take_length] at hkk
          have hlen := congrArg List.length hdd
          have h10 := Kn.enc_len10 (n := x.kids.length) (by omega)
          simp only [List.length_append, Array.length_toList] at hlen
          have hlen2 : (u ++ xd).size = L1.length + (x.keys.flatMap strL).length + (Kn.enc x.kids.length).length := hlen
          rw [ByteArray.size_append] at hlen2
          have z1 : ¬ 9223372036854775807 < u.size + xd.size := by have := HHL.out; omega
          have HL2 : Hid ((L1 ++ x.keys.flatMap strL ++ Kn.enc x.kids.length).length ≤ 2020000000000000000) := Lib.hid (by have := HHL.out; simp only [List.length_append]; omega)
          have HDD := Lib.hid hdd
          clear hi hil hdd hkk hlen h10 hlen2 hxd HU
          have n4 := HX.out.cell HN34.out.2
          go_upto_region 12 with (go_at_call 64; refine (C6.out _).mono ?_; rintro _ w7 ⟨rfl, hc7⟩; have HC7 := Lib.hid (HX.out.trans' hc7); clear hc7)
          clear n3 n4 z1 C6 HX
          generalize hL2 : L1 ++ x.keys.flatMap strL ++ Kn.enc x.kids.length = L2 at *
          generalize u ++ xd = t7 at *
          have HN4 := Lib.hid HN34.out.2
          clear HN34
          go_wp2_with fail
          go_loopw [3, 7] (fun s j wx => ∃ (i : Nat) (u : ByteArray), i ≤ x.kids.length ∧ s = .string u ∧ j = .int .i64 i ∧ Hid (u.data.toList = L2 ++ (x.kids.take i).flatMap intL) ∧ Hid (Chg (fun _ => False) w6 wx)) (fun _ j _ => x.kids.length - (intOf j).toNat)
          case atStart => exact ⟨0, _, Nat.zero_le _, rfl, rfl, Lib.hid (by rw [HDD.out]; simp), HC7⟩
          case round =>
            obtain ⟨i, u, hi, rfl, rfl, HU, HX⟩ := hrel
            have n4 := HX.out.cell HN4.out
            by_cases hil : i < x.kids.length
            · have i0 : (0 : Int) ≤ (i : Int) := by omega
              have i1 : (i : Int) < (x.kids.length : Int) := by omega
              have wi : IntKind.i64.wrap ((i : Int) + 1) = ((i + 1 : Nat) : Int) := IntWalk.i64_in _ (by omega)
              obtain ⟨gk, ko, ck, hvk, -, -, hck⟩ := HDS.out.at (by omega)
              simp only [Value.slice.injEq, true_and] at hvk
              obtain ⟨rfl, rfl⟩ := hvk
              have q0 := HX.out.cell (HCW6.out.cell (hck i (.int .i64 x.kids[i]) (by simp [intC, hil])))
              have hkey := HEN.out.kids.2 _ (List.getElem_mem hil)
              have HFK := Lib.hid (flat_take (f := intL) hil)
              have HNI : Hid (i + 1 ≤ x.kids.length) := Lib.hid hil
              have hpre := kidsL_len HEN.out i
              have hus := congrArg List.length HU.out
              have hul : u.data.toList.length = u.size := by simp
              rw [List.length_append, hul] at hus
              have hsl := intL_len hkey
              generalize x.kids[i] = key at *
              clear hil hi hck
              obtain ⟨xn, hxn⟩ : ∃ s, s = bs (intL key) := ⟨_, rfl⟩
              have C5 : Hid (∀ W, Calls Tryd.prog 65 #[.int .i64 key] W fun e w' => e = .returned (.string xn) ∧ Chg (fun _ => False) W w') := Lib.hid (by rw [hxn]; exact fun W => integer47_any _ hkey.1 hkey.2 W)
              have HDB : Hid ((u ++ xn).data.toList = L2 ++ (x.kids.take (i + 1)).flatMap intL) := Lib.hid (by rw [app_data, HU.out, HFK.out, hxn, bs_data, List.append_assoc])
              have hxs : xn.size = (intL key).length := by rw [hxn, bs_size]
              have z2 : ¬ 9223372036854775807 < u.size + xn.size := by have := HL2.out; omega
              clear hxs hsl hul hus hpre hkey hxn HU
              go_wp2_with (go_at_call 65; refine (C5.out _).mono ?_; rintro _ w8 ⟨rfl, hc8⟩; have HX8 := Lib.hid (HX.out.trans' hc8); clear hc8)
              go_roundw
              case rel => exact ⟨i + 1, _, HNI.out, rfl, rfl, HDB, HX8⟩
              case measure => have := HNI.out; simp [intOf, wi]; omega
            · have i1 : ¬ (i : Int) < (x.kids.length : Int) := by omega
              rw [List.take_of_length_le (show x.kids.length ≤ i by omega)] at HU
              have HDF : Hid (u.data.toList = Kn.enc nn ++ (m.nodes.take (k + 1)).flatMap nodL) := Lib.hid (by rw [HU.out, ← hL2, ← hL1, ← HL0.out, HFL.out, nodL_eq]; simp only [List.append_assoc])
              clear hi hil HU
              go_wp2_with fail
              go_roundw
              case rel => exact ⟨k + 1, _, HNX.out, rfl, rfl, HDF, Lib.hid (HC56.out.trans' HX.out)⟩
              case measure => have := HNX.out; simp [intOf, w64]; omega
    · have i1 : ¬ (k : Int) < (nn : Int) := by omega
      rw [List.take_of_length_le (show m.nodes.length ≤ k by rw [← HNM.out]; omega)] at HT
      clear hk hlt
      obtain ⟨xd, hxd⟩ : ∃ s, s = bs (Kn.enc np) := ⟨_, rfl⟩
      have C6 : Hid (∀ W, Calls Tryd.prog 64 #[.int .i64 (np : Int)] W fun e w' => e = .returned (.string xd) ∧ Chg (fun _ => False) W w') := Lib.hid (by rw [hxd]; exact fun W => length47_any _ (by have := HP100.out; omega) W)
      have hdd : (t ++ xd).data.toList = Kn.enc nn ++ m.nodes.flatMap nodL ++ Kn.enc np := by rw [app_data, HT.out, hxd, bs_data]
      have hkk := nodesL_len HOK.out m.nodes.length
      rw [List.take_length] at hkk
      have hlen := congrArg List.length hdd
      have h10 := Kn.enc_len10 (n := np) (by have := HP100.out; omega)
      have h11 := HNL.out
      simp only [List.length_append, Array.length_toList] at hlen
      have hlen2 : (t ++ xd).size = (Kn.enc nn).length + (m.nodes.flatMap nodL).length + (Kn.enc np).length := hlen
      rw [ByteArray.size_append] at hlen2
      have z1 : ¬ 9223372036854775807 < t.size + xd.size := by omega
      have HL2 : Hid ((Kn.enc nn ++ m.nodes.flatMap nodL ++ Kn.enc np).length ≤ 2020000000000000000) := Lib.hid (by simp only [List.length_append]; omega)
      have HDD := Lib.hid hdd
      clear hdd hkk hlen h10 h11 hlen2 hxd HT
      go_upto_region 17 with (go_at_call 64; refine (C6.out _).mono ?_; rintro _ w7 ⟨rfl, hc7⟩; have HC7 := Lib.hid (HC.out.trans' hc7); clear hc7)
      clear z1 C6 HC y0 y1
      generalize hL2 : Kn.enc nn ++ m.nodes.flatMap nodL ++ Kn.enc np = L2 at *
      generalize t ++ xd = t7 at *
      have hpl : (np : Int) ≤ 100 := by have := HP100.out; omega
      go_wp2_with fail
      go_loopw [3, 8] (fun s j wx => ∃ (i : Nat) (u : ByteArray), i ≤ np ∧ s = .string u ∧ j = .int .i64 i ∧ Hid (u.data.toList = L2 ++ (m.ports.take i).flatMap intL) ∧ Hid (Chg (fun _ => False) w1 wx)) (fun _ j _ => np - (intOf j).toNat)
      case atStart => exact ⟨0, _, Nat.zero_le _, rfl, rfl, Lib.hid (by rw [HDD.out]; simp), HC7⟩
      case round =>
        obtain ⟨i, u, hi, rfl, rfl, HU, HX⟩ := hrel
        have y1 := cell_of_block (i := 1) (HX.out.keep HB.out (fun x => x)) rfl
        simp only [List.getElem_toArray, List.getElem_cons_zero, List.getElem_cons_succ] at y1
        by_cases hil : i < np
        · have i0 : (0 : Int) ≤ (i : Int) := by omega
          have i1 : (i : Int) < (np : Int) := by omega
          have wi : IntKind.i64.wrap ((i : Int) + 1) = ((i + 1 : Nat) : Int) := IntWalk.i64_in _ (by omega)
          have hip : i < m.ports.length := by rw [← HNP.out]; exact hil
          obtain ⟨gk, ko, ck, hvk, -, -, hck⟩ := HMP.out.at (by omega)
          have hsp : sp = some ⟨gk, ko, none⟩ := by injection hvk
          subst hsp
          have q0 := HX.out.cell (HCA.out.cell (hck i (.int .i64 m.ports[i]) (by simp [intC, hip])))
          have hkey := HOK.out.ports.2 _ (List.getElem_mem hip)
          have HFK := Lib.hid (flat_take (f := intL) hip)
          have HNI : Hid (i + 1 ≤ np) := Lib.hid hil
          have hpre := portsL_len HOK.out i
          have hus := congrArg List.length HU.out
          have hul : u.data.toList.length = u.size := by simp
          rw [List.length_append, hul] at hus
          have hsl := intL_len hkey
          generalize m.ports[i] = key at *
          clear hil hi hck hip hvk
          obtain ⟨xn, hxn⟩ : ∃ s, s = bs (intL key) := ⟨_, rfl⟩
          have C5 : Hid (∀ W, Calls Tryd.prog 65 #[.int .i64 key] W fun e w' => e = .returned (.string xn) ∧ Chg (fun _ => False) W w') := Lib.hid (by rw [hxn]; exact fun W => integer47_any _ hkey.1 hkey.2 W)
          have HDB : Hid ((u ++ xn).data.toList = L2 ++ (m.ports.take (i + 1)).flatMap intL) := Lib.hid (by rw [app_data, HU.out, HFK.out, hxn, bs_data, List.append_assoc])
          have hxs : xn.size = (intL key).length := by rw [hxn, bs_size]
          have z2 : ¬ 9223372036854775807 < u.size + xn.size := by have := HL2.out; omega
          clear hxs hsl hul hus hpre hkey hxn HU
          go_wp2_with (go_at_call 65; refine (C5.out _).mono ?_; rintro _ w8 ⟨rfl, hc8⟩; have HX8 := Lib.hid (HX.out.trans' hc8); clear hc8)
          go_roundw
          case rel => exact ⟨i + 1, _, HNI.out, rfl, rfl, HDB, HX8⟩
          case measure => have := HNI.out; simp [intOf, wi]; omega
        · have i1 : ¬ (i : Int) < (np : Int) := by omega
          rw [List.take_of_length_le (show m.ports.length ≤ i by rw [← HNP.out]; omega)] at HU
          have HDF : Hid (u = bs (encL m)) := Lib.hid (bs_ext (by rw [HU.out, ← hL2, HNM.out, HNP.out]; rfl))
          clear hi hil HU
          have hu := HDF.out
          subst hu
          clear HDF
          go_wp2_with fail
          go_ret
          exact ⟨rfl, HCA.out.trans' HX.out⟩

set_option maxHeartbeats 1600000 in
set_option maxRecDepth 100000 in
/-- knapsackref47.Same of two messages that are the same. -/
theorem same47_any {D E : Nat → Prop} (w : World) (sn sp tn tp : Option Addr) (nn cn np cp ln kn lp kp : Nat) (m : Msg) (h1 : MsgAt D w (.slice sn nn cn) (.slice sp np cp) m) (h2 : MsgAt E w (.slice tn ln kn) (.slice tp lp kp) m) (ok : EncOk m) :
    Calls Tryd.prog 26 #[.agg #[.slice sn nn cn, .slice sp np cp], .agg #[.slice tn ln kn, .slice tp lp kp]] w fun e w' => e = .returned (.bool true) ∧ Chg (fun _ => False) w w' := by
  have HC := Lib.hid ((Chg.alloc (fun _ => False) w (.cells #[.slice sn nn cn, .slice sp np cp] 32)).allocR (.cells #[.slice tn ln kn, .slice tp lp kp] 32))
  have HB1 := Lib.hid (alloc_old (.cells #[.slice tn ln kn, .slice tp lp kp] 32) (alloc_block w (.cells #[.slice sn nn cn, .slice sp np cp] 32)))
  have hb3 := alloc_block (w.alloc (.cells #[.slice sn nn cn, .slice sp np cp] 32)) (.cells #[.slice tn ln kn, .slice tp lp kp] 32)
  rw [World.size_alloc] at hb3
  have HB2 := Lib.hid hb3
  have HE1 := Lib.hid (fun W (hc : Chg (fun _ => False) w W) => encode_any W sn sp nn cn np cp m (h1.chg hc (fun _ _ x => x.elim) (fun _ _ x => x)) ok)
  have HE2 := Lib.hid (fun W (hc : Chg (fun _ => False) w W) => encode_any W tn tp ln kn lp kp m (h2.chg hc (fun _ _ x => x.elim) (fun _ _ x => x)) ok)
  clear hb3 h1 h2 ok
  generalize bs (encL m) = s at *
  go_enter Tryd.func26, Tryd.ntmps26
  go_upto_region 1 with fail
  generalize (w.alloc (.cells #[.slice sn nn cn, .slice sp np cp] 32)).alloc (.cells #[.slice tn ln kn, .slice tp lp kp] 32) = w4 at *
  generalize w.heap.size + 1 = b3 at *
  generalize w.heap.size = b1 at *
  have m0 : ∀ z : Later w4, z.at_.cell? ⟨b1, 0, none⟩ = some (.slice sn nn cn) := Later.cell (cell_of_block (i := 0) HB1.out rfl)
  have m1 : ∀ z : Later w4, z.at_.cell? ⟨b1, 1, none⟩ = some (.slice sp np cp) := Later.cell (cell_of_block (i := 1) HB1.out rfl)
  have m2 : ∀ z : Later w4, z.at_.cell? ⟨b3, 0, none⟩ = some (.slice tn ln kn) := Later.cell (cell_of_block (i := 0) HB2.out rfl)
  have m3 : ∀ z : Later w4, z.at_.cell? ⟨b3, 1, none⟩ = some (.slice tp lp kp) := Later.cell (cell_of_block (i := 1) HB2.out rfl)
  refine wp_region_later (by kernel_rfl) (by kernel_rfl) ?_
  go_big_quiet_step (fail)
  go_big_quiet_step ((go_at_call 48; exact Later.call (HE1.out _ (HC.out.trans' (Later.chg _)))))
  go_big_quiet_step (fail)
  go_big_quiet_step ((go_at_call 48; exact Later.call (HE2.out _ (HC.out.trans' (Later.chg _)))))
  repeat (go_big_quiet_step (fail))
  refine wpQuiet_nil ?_
  rintro _ ⟨y, rfl⟩
  go_wp2_with fail
  go_ret
  exact ⟨by simp, HC.out.trans' y.chg⟩
end Go.Proofs.YtiecgbmeobpomaaDoor
namespace Go.Proofs.YtiecgbmeobpomaaDoor
open Go.Shelf
def sh_lays189_ren : Go.Shelf.Ren := ⟨fun | 189 => 46 | 125 => 59 | 257 => 58 | 128 => 81 | 129 => 82 | 294 => 72 | 295 => 73 | 296 => 74 | 297 => 75 | 298 => 76 | 299 => 77 | 216 => 78 | 300 => 79 | 301 => 80 | 328 => 89 | 329 => 90 | 330 => 91 | 331 => 92 | 332 => 93 | 215 => 94 | 343 => 100 | n => n, fun | 28 => 26 | 3 => 3 | 46 => 97 | 0 => 0 | 51 => 119 | 53 => 121 | 4 => 4 | 183 => 111 | 182 => 110 | 131 => 116 | 5 => 5 | 9 => 9 | 218 => 129 | 222 => 133 | 228 => 143 | 229 => 144 | n => n, fun | n => n⟩
theorem sh_lays189 : Go.Proofs.Lays.n189 Tryd.prog sh_lays189_ren := {
  mixed := by kernel_rfl
  f125 := Tryd.func59.trans (congrArg some (by kernel_rfl))
  f128 := Tryd.func81.trans (congrArg some (by kernel_rfl))
  f129 := Tryd.func82.trans (congrArg some (by kernel_rfl))
  f189 := Tryd.func46.trans (congrArg some (by kernel_rfl))
  f215 := Tryd.func94.trans (congrArg some (by kernel_rfl))
  f216 := Tryd.func78.trans (congrArg some (by kernel_rfl))
  f257 := Tryd.func58.trans (congrArg some (by kernel_rfl))
  f294 := Tryd.func72.trans (congrArg some (by kernel_rfl))
  f295 := Tryd.func73.trans (congrArg some (by kernel_rfl))
  f296 := Tryd.func74.trans (congrArg some (by kernel_rfl))
  f297 := Tryd.func75.trans (congrArg some (by kernel_rfl))
  f298 := Tryd.func76.trans (congrArg some (by kernel_rfl))
  f299 := Tryd.func77.trans (congrArg some (by kernel_rfl))
  f300 := Tryd.func79.trans (congrArg some (by kernel_rfl))
  f301 := Tryd.func80.trans (congrArg some (by kernel_rfl))
  f328 := Tryd.func89.trans (congrArg some (by kernel_rfl))
  f329 := Tryd.func90.trans (congrArg some (by kernel_rfl))
  f330 := Tryd.func91.trans (congrArg some (by kernel_rfl))
  f331 := Tryd.func92.trans (congrArg some (by kernel_rfl))
  f332 := Tryd.func93.trans (congrArg some (by kernel_rfl))
  f343 := Tryd.func100.trans (congrArg some (by kernel_rfl))
  t0 := Tryd.underlying0
  a0 := Tryd.isAgg0
  z0 := Tryd.sizeOf0
  v0 := Tryd.zeroValue0
  t3 := Tryd.underlying3
  a3 := Tryd.isAgg3
  z3 := Tryd.sizeOf3
  v3 := Tryd.zeroValue3
  t4 := Tryd.underlying4
  a4 := Tryd.isAgg4
  z4 := Tryd.sizeOf4
  v4 := Tryd.zeroValue4
  t5 := Tryd.underlying5
  a5 := Tryd.isAgg5
  z5 := Tryd.sizeOf5
  v5 := Tryd.zeroValue5
  t9 := Tryd.underlying9
  a9 := Tryd.isAgg9
  z9 := Tryd.sizeOf9
  v9 := Tryd.zeroValue9
  t28 := Tryd.underlying26
  a28 := Tryd.isAgg26
  z28 := Tryd.sizeOf26
  v28 := Tryd.zeroValue26
  t46 := Tryd.underlying97
  a46 := Tryd.isAgg97
  z46 := Tryd.sizeOf97
  v46 := Tryd.zeroValue97
  t51 := Tryd.underlying119
  a51 := Tryd.isAgg119
  z51 := Tryd.sizeOf119
  v51 := Tryd.zeroValue119
  t53 := Tryd.underlying121
  a53 := Tryd.isAgg121
  z53 := Tryd.sizeOf121
  v53 := Tryd.zeroValue121
  t131 := Tryd.underlying116
  a131 := Tryd.isAgg116
  z131 := Tryd.sizeOf116
  v131 := Tryd.zeroValue116
  t182 := Tryd.underlying110
  a182 := Tryd.isAgg110
  z182 := Tryd.sizeOf110
  v182 := Tryd.zeroValue110
  t183 := Tryd.underlying111
  a183 := Tryd.isAgg111
  z183 := Tryd.sizeOf111
  v183 := Tryd.zeroValue111
  t218 := Tryd.underlying129
  a218 := Tryd.isAgg129
  z218 := Tryd.sizeOf129
  v218 := Tryd.zeroValue129
  t222 := Tryd.underlying133
  a222 := Tryd.isAgg133
  z222 := Tryd.sizeOf133
  v222 := Tryd.zeroValue133
  t228 := Tryd.underlying143
  a228 := Tryd.isAgg143
  z228 := Tryd.sizeOf143
  v228 := Tryd.zeroValue143
  t229 := Tryd.underlying144
  a229 := Tryd.isAgg144
  z229 := Tryd.sizeOf144
  v229 := Tryd.zeroValue144 }
open Go.Sort Go.RowKit in
theorem sh_slices_Sort_int (blk off cap : Nat) (zs : List Int) (w : World) (hH : Holds (Value.int .i64) w blk off zs.toArray) (hblk : blk < w.heap.size) (hsz : zs.length < 4611686018427387904) :
    Calls Tryd.prog 46 #[.slice (some ⟨blk, off, none⟩) zs.length cap] w fun e w' =>
      e = .returned (.tuple #[]) ∧ ∃ n os, w' = grow (putRow (Value.int .i64) (Sort.ahead w n) blk off (zs.mergeSort fun x y => decide (x ≤ y)).toArray) os := Any.slices_Sort_int sh_lays189 blk off cap zs w hH hblk hsz
def sh_lays108_ren : Go.Shelf.Ren := ⟨fun | 108 => 39 | n => n, fun | 28 => 26 | 3 => 3 | 0 => 0 | 4 => 4 | n => n, fun | n => n⟩
theorem sh_lays108 : Go.Proofs.Lays.n108 Tryd.prog sh_lays108_ren := {
  mixed := by kernel_rfl
  f108 := Tryd.func39.trans (congrArg some (by kernel_rfl))
  t0 := Tryd.underlying0
  a0 := Tryd.isAgg0
  z0 := Tryd.sizeOf0
  v0 := Tryd.zeroValue0
  t3 := Tryd.underlying3
  a3 := Tryd.isAgg3
  z3 := Tryd.sizeOf3
  v3 := Tryd.zeroValue3
  t4 := Tryd.underlying4
  a4 := Tryd.isAgg4
  z4 := Tryd.sizeOf4
  v4 := Tryd.zeroValue4
  t28 := Tryd.underlying26
  a28 := Tryd.isAgg26
  z28 := Tryd.sizeOf26
  v28 := Tryd.zeroValue26 }
open Go.Lib in
theorem sh_slices_Index_int (b off n c : Nat) (zs : List Int) (x : Int) (w : World) (hz : n ≤ zs.length) (hbig : n ≤ 9223372036854775807) (hc : ∀ j, j < zs.length → w.cell? ⟨b, off + j, none⟩ = some (.int .i64 (zs.getD j 0))) :
    Calls Tryd.prog 39 #[.slice (some ⟨b, off, none⟩) n c, .int .i64 x] w fun e w' => e = .returned (.int .i64 (Lib.idxOf (zs.take n) x)) ∧ w' = w := Any.slices_Index_int sh_lays108 b off n c zs x w hz hbig hc
open Go.Lib in
theorem sh_slices_Index_int_empty (a : Option Addr) (c : Nat) (x : Int) (w : World) :
    Calls Tryd.prog 39 #[.slice a 0 c, .int .i64 x] w fun e w' => e = .returned (.int .i64 (Lib.idxOf [] x)) ∧ w' = w := Any.slices_Index_int_empty sh_lays108 a c x w
def sh_laysNm223_ren : Go.Shelf.Ren := ⟨fun | 23 => 40 | n => n, fun | 22 => 26 | 3 => 3 | 4 => 4 | 0 => 0 | n => n, fun | n => n⟩
theorem sh_laysNm223 : Go.Proofs.Lays2.n23 Tryd.prog sh_laysNm223_ren := {
  mixed := by kernel_rfl
  f23 := Tryd.func40.trans (congrArg some (by kernel_rfl))
  t0 := Tryd.underlying0
  a0 := Tryd.isAgg0
  z0 := Tryd.sizeOf0
  v0 := Tryd.zeroValue0
  t3 := Tryd.underlying3
  a3 := Tryd.isAgg3
  z3 := Tryd.sizeOf3
  v3 := Tryd.zeroValue3
  t4 := Tryd.underlying4
  a4 := Tryd.isAgg4
  z4 := Tryd.sizeOf4
  v4 := Tryd.zeroValue4
  t22 := Tryd.underlying26
  a22 := Tryd.isAgg26
  z22 := Tryd.sizeOf26
  v22 := Tryd.zeroValue26
  i3 := by kernel_rfl }
open Go.RowKit Go.Lib Go.Sort in
theorem sh_slices_Delete_int (blk off cap i j : Nat) (zs : List Int) (w : World) (hH : Holds (Value.int .i64) w blk off zs.toArray) (hcap : zs.length ≤ cap) (hm : cap ≤ 9223372036854775807) (hij : i ≤ j) (hj : j ≤ zs.length) :
    Calls Tryd.prog 40 #[.slice (some ⟨blk, off, none⟩) zs.length cap, .int .i64 i, .int .i64 j] w fun e w' => e = .returned (.slice (some ⟨blk, off, none⟩) (zs.length - (j - i)) cap) ∧ ∃ q, w' = putRow (Value.int .i64) (Sort.ahead w q) blk off (zs.take i ++ zs.drop j ++ List.replicate (j - i) 0).toArray := Any.slices_Delete_int sh_laysNm223 blk off cap i j zs w hH hcap hm hij hj
open Go.RowKit Go.Sort in
theorem sh_slices_Sort_int_none (p : Option Addr) (cap : Nat) (w : World) :
    Calls Tryd.prog 46 #[.slice p 0 cap] w fun e w' => e = .returned (.tuple #[]) ∧ w' = w := Any.slices_Sort_int_none sh_lays189 p cap w
open Go.RowKit Go.Lib in
theorem sh_slices_Delete_int_empty (a : Option Addr) (c : Nat) (w : World) :
    Calls Tryd.prog 40 #[.slice a 0 c, .int .i64 0, .int .i64 0] w fun e w' => e = .returned (.slice a 0 c) ∧ w' = w := Any.slices_Delete_int_empty sh_laysNm223 a c w
end Go.Proofs.YtiecgbmeobpomaaDoor
namespace Go.Proofs.YtiecgbmeobpomaaDoor
open Go.RowKit
set_option linter.unusedVariables false
set_option linter.unusedSimpArgs false

def sorted (zs : List Int) : List Int := zs.mergeSort fun x y => decide (x ≤ y)
theorem sorted_length (zs : List Int) : (sorted zs).length = zs.length := by simp [sorted]
theorem holds_row {w : World} {g off cap : Nat} {zs : List Int} (h : RowAt w 3 1 (.slice (some ⟨g, off, none⟩) zs.length cap) zs.length (intC zs)) (hf : ∀ j, w.frozen? ⟨g, off + j, none⟩ = false) :
    Sort.Holds (Value.int .i64) w g off zs.toArray := by
  intro j hj
  have hj' : j < zs.length := by simpa using hj
  refine ⟨?_, hf j⟩
  have := h.cellAt j (.int .i64 zs[j]) (by simp [hj', intC])
  rw [this]
  simp [hj']
theorem put_row {w : World} {g off cap n : Nat} {zs : List Int} {cur : Array Value} (hg : w.heap[g]? = some (.cells cur 3 (0, 0))) (hn : n ≤ cap) (hc : cap ≤ maxLen) (hs : off + cap * 1 ≤ cur.size) (hl : zs.length = n) (q : Nat) (os : Array _root_.Go.Obj) :
    RowAt (Sort.grow (Sort.putRow (Value.int .i64) (Sort.ahead w q) g off zs.toArray) os) 3 1 (.slice (some ⟨g, off, none⟩) n cap) n (intC zs) ∧ Chg (fun k => k = g) w (Sort.grow (Sort.putRow (Value.int .i64) (Sort.ahead w q) g off zs.toArray) os) := by
  have hblk := lt_of_block hg
  have hbox : (Sort.grow (Sort.putRow (Value.int .i64) (Sort.ahead w q) g off zs.toArray) os).heap[g]? = some (.cells (Sort.putCells (Value.int .i64) off zs.toArray cur) 3 (0, 0)) := by
    simp only [Sort.grow, Sort.putRow, Sort.mapBlock, Sort.ahead]
    rw [Array.getElem?_append_left (by simpa using hblk), Array.getElem?_modify, if_pos rfl, hg]
    rfl
  refine ⟨⟨by rw [intC_len, hl]; omega, .inr ⟨g, off, cap, _, rfl, hbox, hn, hc, by simpa [Sort.putCells] using hs, ?_⟩⟩, ⟨rfl, rfl, rfl, by simp [Sort.grow, Sort.putRow, Sort.mapBlock, Sort.ahead], fun k hk hne => ?_⟩⟩
  · refine List.ext_getElem? fun j => ?_
    by_cases hj : j < n
    · rw [take_drop_get (by omega)]
      have hlt : off + j < cur.size := by omega
      simp only [Sort.putCells, Array.toList_mapIdx, List.getElem?_mapIdx]
      rw [show cur.toList[off + j]? = some cur[off + j] from by simp [hlt]]
      simp only [Option.map_some, List.size_toArray]
      rw [if_pos ⟨by omega, by omega⟩, show off + j - off = j from by omega]
      have hj2 : j < zs.length := by omega
      rw [intC, List.getElem?_map, List.getElem?_eq_getElem hj2, getElem!_pos _ j (by simpa using hj2)]
      rfl
    · rw [List.getElem?_eq_none (by simp; omega), List.getElem?_eq_none (by rw [intC_len]; omega)]
  · have hkg : g ≠ k := fun e => hne e.symm
    simp only [Sort.grow, Sort.putRow, Sort.mapBlock, Sort.ahead]
    rw [Array.getElem?_append_left (by simpa using hk), Array.getElem?_modify, if_neg hkg]
theorem sortRow (w : World) (v : Value) (zs : List Int) (h : RowAt w 3 1 v zs.length (intC zs)) (hz : Few zs.length) :
    Calls Tryd.prog 46 #[v] w fun e w' => e = .returned (.tuple #[]) ∧ RowAt w' 3 1 v (sorted zs).length (intC (sorted zs)) ∧ Chg (fun k => v.ownBlock = some k) w w' := by
  by_cases hzs : zs = []
  · subst hzs
    obtain ⟨a, cap, rfl, _⟩ := h.slice
    refine (sh_slices_Sort_int_none a cap w).mono ?_
    rintro e w' ⟨rfl, rfl⟩
    exact ⟨rfl, by simpa [sorted] using h, .refl _ _⟩
  have hpos : 0 < zs.length := List.length_pos_iff.2 hzs
  have h' := h
  obtain ⟨hl, hr⟩ := h'
  rcases hr with ⟨_, h0⟩ | ⟨g, off, cap, cur, rfl, hg, h1, h2, h3, h4⟩
  · omega
  have hblk := lt_of_block hg
  refine (sh_slices_Sort_int g off cap zs w (holds_row h fun j => frozen_of_block hg) hblk (by have := hz.lt; omega)).mono ?_
  rintro e w' ⟨rfl, n, os, rfl⟩
  obtain ⟨k1, k2⟩ := put_row (zs := sorted zs) hg (by rw [sorted_length]; exact h1) h2 h3 rfl n os
  rw [sorted_length] at k1 ⊢
  exact ⟨rfl, k1, k2.mono (fun k _ e => by subst e; rfl)⟩
theorem delI_any (w : World) (v : Value) (zs : List Int) (i j : Nat) (h : RowAt w 3 1 v zs.length (intC zs)) (hij : i < j) (hj : j ≤ zs.length) :
    Calls Tryd.prog 40 #[v, .int .i64 (i : Int), .int .i64 (j : Int)] w fun e w' => ∃ v', e = .returned v' ∧ RowAt w' 3 1 v' (zs.take i ++ zs.drop j).length (intC (zs.take i ++ zs.drop j)) ∧ Chg (fun k => v.ownBlock = some k) w w' ∧ (∀ k, v'.ownBlock = some k → v.ownBlock = some k) := by
  have h' := h
  obtain ⟨hl, hr⟩ := h'
  rcases hr with ⟨_, h0⟩ | ⟨g, off, cap, cur, rfl, hg, h1, h2, h3, h4⟩
  · omega
  have hll : (zs.take i ++ zs.drop j).length = zs.length - (j - i) := by rw [List.length_append, List.length_take, List.length_drop]; omega
  refine (sh_slices_Delete_int g off cap i j zs w (holds_row h fun j => frozen_of_block hg) h1 h2 (by omega) hj).mono ?_
  rintro e w' ⟨rfl, q, rfl⟩
  have hl3 : (zs.take i ++ zs.drop j ++ List.replicate (j - i) (0 : Int)).length = zs.length := by rw [List.length_append, hll, List.length_replicate]; omega
  obtain ⟨k1, k2⟩ := put_row hg h1 h2 h3 hl3 q #[]
  rw [Sort.grow_empty] at k1 k2
  refine ⟨_, rfl, ?_, k2.mono (fun k _ e => by subst e; rfl), fun k hk => hk⟩
  have hp := k1.prefix (m := (zs.take i ++ zs.drop j).length) (by omega)
  rw [Nat.mul_one] at hp
  have hx : (intC (zs.take i ++ zs.drop j ++ List.replicate (j - i) (0 : Int))).take (zs.take i ++ zs.drop j).length = intC (zs.take i ++ zs.drop j) := by
    unfold intC
    rw [List.map_append]
    exact List.take_left' (by rw [List.length_map])
  rw [hx] at hp
  rw [hll] at hp ⊢
  exact hp
theorem idxI_any (w : World) (v : Value) (zs : List Int) (x : Int) (h : RowAt w 3 1 v zs.length (intC zs)) :
    Calls Tryd.prog 39 #[v, .int .i64 x] w fun e w' => e = .returned (.int .i64 (Lib.idxOf zs x)) ∧ w' = w := by
  by_cases hzs : zs = []
  · subst hzs
    obtain ⟨a, cap, rfl, _⟩ := h.slice
    exact sh_slices_Index_int_empty a cap x w
  have hpos : 0 < zs.length := List.length_pos_iff.2 hzs
  obtain ⟨g, off, cap, rfl, h1, h2⟩ := h.addr hpos
  have := sh_slices_Index_int g off zs.length cap zs x w (Nat.le_refl _) (by unfold maxLen at h2; omega) (fun j hj => by
    have := h.cellAt j (.int .i64 zs[j]) (by simp [hj, intC])
    rw [this, List.getD_eq_getElem?_getD, List.getElem?_eq_getElem hj]
    rfl)
  rwa [List.take_length] at this
theorem idxFrom_or (x : Int) : ∀ (zs : List Int) (k : Nat), (x ∉ zs ∧ Lib.idxFrom zs x k = -1) ∨ ∃ i, i < zs.length ∧ Lib.idxFrom zs x k = (k : Int) + (i : Int) ∧ zs.take i ++ zs.drop (i + 1) = zs.erase x ∧ x ∈ zs
  | [], k => .inl ⟨by simp, rfl⟩
  | z :: zs, k => by
    by_cases h : z = x
    · refine .inr ⟨0, by simp, ?_, by simp [h], by simp [h]⟩
      simp [Lib.idxFrom, h]
    · rcases idxFrom_or x zs (k + 1) with ⟨h1, h2⟩ | ⟨i, h1, h2, h3, h4⟩
      · refine .inl ⟨by simp only [List.mem_cons, not_or]; exact ⟨fun e => h e.symm, h1⟩, ?_⟩
        rw [← h2]
        simp [Lib.idxFrom, h]
      · refine .inr ⟨i + 1, by simp; omega, ?_, ?_, by simp [h4]⟩
        · have : Lib.idxFrom (z :: zs) x k = Lib.idxFrom zs x (k + 1) := by simp [Lib.idxFrom, h]
          rw [this, h2]
          simp only [Int.natCast_add, Int.cast_ofNat_Int]
          omega
        · rw [List.take_succ_cons, List.drop_succ_cons, List.cons_append, h3, List.erase_cons_tail (by simpa using h)]
theorem idxOf_or (x : Int) (zs : List Int) : (x ∉ zs ∧ Lib.idxOf zs x = -1) ∨ ∃ i, i < zs.length ∧ Lib.idxOf zs x = (i : Int) ∧ zs.take i ++ zs.drop (i + 1) = zs.erase x ∧ x ∈ zs := by
  rcases idxFrom_or x zs 0 with h | ⟨i, h1, h2, h3⟩
  · exact .inl h
  · exact .inr ⟨i, h1, by rw [Lib.idxOf, h2]; omega, h3⟩
end Go.Proofs.YtiecgbmeobpomaaDoor
namespace Go.Proofs.YtiecgbmeobpomaaDoor
open Go.RowKit
set_option linter.unusedVariables false
set_option linter.unusedSimpArgs false

theorem RowAt.lit {W : World} {e size n : Nat} (cs : List Value) (h : cs.length = n * size) (hn : n ≤ maxLen) : RowAt (W.alloc (.cells cs.toArray e)) e size (.slice (some ⟨W.heap.size, 0, none⟩) n n) n cs :=
  ⟨h, .inr ⟨W.heap.size, 0, n, _, rfl, alloc_block W _, Nat.le_refl _, hn, by simp [h], by simp [← h]⟩⟩
/-- append of integers to a row. -/
theorem wpList_outR {W : World} {ops : Array Oper} {rest : List Oper} {o : Oper} {a : Act} {Q : Exit → Act → World → Prop} (hgd : o.guard = none) (s x : Operand)
    (ho : o.op = .call { callee := .builtin .append, args := #[s, x], argTypes := #[26, 26] })
    (v : Value) (l : List Int) (hsv : a.eval s = v) (H : RowAt W 3 1 v l.length (intC l)) (xv : Value) (m : List Int) (hx : a.eval x = xv) (hxr : RowAt W 3 1 xv m.length (intC m)) (hf : Few (l.length + m.length))
    (h : ∀ a1 n1 c1 w', RowAt w' 3 1 (.slice a1 n1 c1) (l ++ m).length (intC (l ++ m)) → Chg (fun k => v.ownBlock = some k) W w' → (∀ k, (Value.slice a1 n1 c1).ownBlock = some k → v.ownBlock = some k ∨ W.heap.size ≤ k) → wpList Tryd.prog ops Q rest (a.put o.dst (.slice a1 n1 c1)) w') :
    wpList Tryd.prog ops Q (o :: rest) a W := by
  refine list_append_rows hgd s x 26 ho 3 1 8 Tryd.underlying26 elem_int (by decide) v l.length (intC l) hsv H xv m.length (intC m) hx hxr (intC_ones m) (by have := hf.lt; unfold maxLen; omega) (by have := hf.lt; omega) ?_
  intro a1 n1 c1 w' hrow hchg hold
  refine h a1 n1 c1 w' ?_ hchg hold
  have : intC l ++ intC m = intC (l ++ m) := by simp [intC]
  rw [List.length_append, ← this]; exact hrow
def shownP (h : Hist) (p : Int) : Bool := h.list.any (fun e => e.page == p)
def goneL (h : Hist) (l : List Int) : List Int := l.filter (fun p => !shownP h p)
def keptL (h : Hist) (l : List Int) : List Int := l.filter (shownP h)
/-- The sleeping row reads another list. -/
theorem HiAt.slept {w0 : Past} {w w1 : World} {b : Nat} {h : Hist} {vl vs : Value} {rs : List EntR} (H : HiAt w0 w b h vl vs rs) (hc : Chg (fun k => vs.ownBlock = some k) w w1) (cur : List Int) (hr : RowAt w1 3 1 vs cur.length (intC cur)) (hf : cur.length ≤ 1000) :
    HiAt w0 w1 b { h with sleeping := cur } vl vs rs :=
  ⟨hc.keep H.box H.sb, H.row.chg hc H.ls, hr, H.len, fun i a c => (H.each i a c).chg hc (fun k _ x => .inl (.inr (.inr x))) (fun _ _ x => x), H.lb, H.sb, H.ls, H.lo,
    H.chg.trans hc (fun _ _ x => x) (fun k hk x => by have := H.lo k (.inr (.inr x)); omega), H.ok, ⟨H.few.1, hf⟩, H.msgs, fun k hk => Nat.lt_of_lt_of_le (H.xl k hk) hc.size, H.xm⟩
/-- The sleeping slice is another one. -/
theorem HiAt.resleep {w0 : Past} {w w1 : World} {b : Nat} {h : Hist} {vl vs vs' : Value} {rs : List EntR} (H : HiAt w0 w b h vl vs rs) (hc : Chg (fun k => vs.ownBlock = some k) w w1) (cur : List Int) (hr : RowAt w1 3 1 vs' cur.length (intC cur)) (hf : cur.length ≤ 1000) (hold : ∀ k, vs'.ownBlock = some k → vs.ownBlock = some k ∨ w.heap.size ≤ k) :
    HiAt w0 (w1.setCell ⟨b, 4, none⟩ vs') b { h with sleeping := cur } vl vs' rs := by
  have hbl : b < w.heap.size := (Array.getElem?_eq_some_iff.1 H.box).1
  have hc2 : Chg (fun k => k = b) w1 (w1.setCell ⟨b, 4, none⟩ vs') := Chg.setCell w1 ⟨b, 4, none⟩ vs'
  have hb1 := hc.keep H.box H.sb
  have hb2 := setCell_block (i := 4) vs' hb1
  have hall : Chg (fun k => vs.ownBlock = some k ∨ k = b) w (w1.setCell ⟨b, 4, none⟩ vs') := hc.trans hc2 (fun _ _ x => .inl x) (fun _ _ x => .inr x)
  have hsb' : ¬ vs'.ownBlock = some b := fun e => by rcases hold b e with x | x; exact H.sb x; omega
  have hll : ∀ k, vl.ownBlock = some k → k < w.heap.size := H.row.lt
  refine ⟨by simpa using hb2, H.row.chg hall (fun k hk e => e.elim (fun x => H.ls k hk x) (fun x => H.lb (x ▸ hk))), hr.chg hc2 (fun k hk e => hsb' (e ▸ hk)), H.len, fun i a c => (H.each i a c).chg hall (fun k hk x => .inl (x.elim (fun y => .inr (.inr y)) .inl)) (fun k hk x => ?_), H.lb, hsb', fun k hk e => ?_, fun k hk => ?_, ?_, H.ok, ⟨H.few.1, hf⟩, H.msgs, fun k hk => Nat.lt_of_lt_of_le (H.xl k hk) hall.size, fun k hk x => ?_⟩
  · rcases x with (x | x | x) | x
    · exact .inl (.inl x)
    · exact .inl (.inr (.inl x))
    · rcases hold k x with y | y
      · exact .inl (.inr (.inr y))
      · omega
    · exact .inr x
  · rcases hold k e with y | y
    · exact H.ls k hk y
    · have := hll k hk; omega
  · rcases hk with x | x | x
    · exact H.lo k (.inl x)
    · exact H.lo k (.inr (.inl x))
    · rcases hold k x with y | y
      · exact H.lo k (.inr (.inr y))
      · exact Nat.le_trans H.chg.size y
  · exact H.chg.trans hall (fun _ _ x => x) (fun k hk x => by
      have := H.lo k (x.elim (fun y => .inr (.inr y)) .inl)
      omega)
  · rcases hk with y | y | y
    · exact H.xm k (.inl y) x
    · exact H.xm k (.inr (.inl y)) x
    · rcases hold k y with z | z
      · exact H.xm k (.inr (.inr z)) x
      · have := H.xl k x; omega
/-- clean under way: the row that sleeps reads cur, the pages found out. -/
structure ClI (ws : World) (b : Nat) (vs : Value) (pb ob : Nat) (W : World) (cur out : List Int) (vo : Value) : Prop where
  slp : RowAt W 3 1 vs cur.length (intC cur)
  few : cur.length ≤ 1000
  pbc : W.cell? ⟨pb, 0, none⟩ = some (.pointer (some ⟨b, 0, none⟩))
  obb : W.heap[ob]? = some (.cells #[vo] 26 (0, 0))
  row : RowAt W 3 1 vo out.length (intC out)
  new : ∀ k, vo.ownBlock = some k → ws.heap.size ≤ k ∧ k ≠ pb ∧ k ≠ ob
  lo : ws.heap.size ≤ pb ∧ ws.heap.size ≤ ob ∧ pb ≠ ob
  chg : Chg (fun k => vs.ownBlock = some k) ws W
theorem ClI.still {ws : World} {b : Nat} {vs : Value} {pb ob : Nat} {W W1 : World} {cur out : List Int} {vo : Value} (I : ClI ws b vs pb ob W cur out vo) (hc : Chg (fun _ => False) W W1) : ClI ws b vs pb ob W1 cur out vo :=
  ⟨I.slp.chg hc (fun _ _ x => x), I.few, hc.cell I.pbc, hc.keep I.obb (fun x => x), I.row.chg hc (fun _ _ x => x), I.new, I.lo, I.chg.trans hc (fun _ _ x => x) (fun _ _ x => x.elim)⟩
theorem ClI.more {ws : World} {b : Nat} {vs : Value} {pb ob : Nat} {W W1 : World} {cur out out' : List Int} {vo vo' : Value} (I : ClI ws b vs pb ob W cur out vo) (hsl : ∀ k, vs.ownBlock = some k → k < ws.heap.size) (hc : Chg (fun k => vo.ownBlock = some k) W W1) (hr : RowAt W1 3 1 vo' out'.length (intC out')) (hold : ∀ k, vo'.ownBlock = some k → vo.ownBlock = some k ∨ W.heap.size ≤ k) :
    ClI ws b vs pb ob (W1.setCell ⟨ob, 0, none⟩ vo') cur out' vo' := by
  have hc2 : Chg (fun k => k = ob) W1 (W1.setCell ⟨ob, 0, none⟩ vo') := Chg.setCell W1 ⟨ob, 0, none⟩ vo'
  have hall : Chg (fun k => vo.ownBlock = some k ∨ k = ob) W (W1.setCell ⟨ob, 0, none⟩ vo') := hc.trans hc2 (fun _ _ x => .inl x) (fun _ _ x => .inr x)
  have hob : ob < W.heap.size := (Array.getElem?_eq_some_iff.1 I.obb).1
  have hpb : pb < W.heap.size := World.block_lt_of_cell? W _ I.pbc
  have hb1 := hc.keep I.obb (fun e => (I.new ob e).2.2 rfl)
  have hb2 := setCell_block (i := 0) vo' hb1
  have hn : ∀ k, vo'.ownBlock = some k → ws.heap.size ≤ k ∧ k ≠ pb ∧ k ≠ ob := fun k hk => by
    rcases hold k hk with x | x
    · exact I.new k x
    · exact ⟨Nat.le_trans I.chg.size x, by omega, by omega⟩
  refine ⟨I.slp.chg hall (fun k hk e => ?_), I.few, hall.cellS I.pbc (fun e => ?_), by simpa using hb2, hr.chg hc2 (fun k hk e => (hn k hk).2.2 e), hn, I.lo, I.chg.trans hall (fun _ _ x => x) (fun k hk x => ?_)⟩
  · have := hsl k hk
    rcases e with e | e
    · have := (I.new k e).1; omega
    · have := I.lo.2.1; omega
  · rcases e with e | e
    · exact (I.new pb e).2.1 rfl
    · exact I.lo.2.2 e
  · rcases x with e | e
    · have := (I.new k e).1; omega
    · have := I.lo.2.1; omega
set_option maxHeartbeats 1600000 in
set_option maxRecDepth 100000 in
theorem clean1_any (w0 : Past) (ws : World) (b : Nat) (h : Hist) (vl vs : Value) (rs : List EntR) (H : HiAt w0 ws b h vl vs rs) (pb ob : Nat) (W : World) (cur out : List Int) (vo : Value) (I : ClI ws b vs pb ob W cur out vo) (p : Int) (ho : out.length ≤ 1000) :
    Calls Tryd.prog 55 #[.int .i64 p, .pointer (some ⟨pb, 0, none⟩), .pointer (some ⟨ob, 0, none⟩)] W fun e w' => e = .returned (.bool (!shownP h p)) ∧ ∃ vo', ClI ws b vs pb ob w' cur (out ++ goneL h [p]) vo' := by
  have hsl : ∀ k, vs.ownBlock = some k → k < ws.heap.size := H.slp.lt
  have hi := H.slept I.chg cur I.slp I.few
  have HSH := Lib.hid (shown_any w0 W b _ vl vs rs hi p)
  have c0 := I.pbc
  have HI := Lib.hid I
  have HSL := Lib.hid hsl
  have HO := Lib.hid ho
  have hgl : goneL h [p] = if shownP h p = true then [] else [p] := by
    unfold goneL
    by_cases hq : shownP h p = true
    · simp [hq]
    · simp only [Bool.not_eq_true] at hq; simp [hq]
  rw [hgl]
  have hsp : h.list.any (fun e => e.page == p) = shownP h p := rfl
  rw [hsp] at HSH
  generalize shownP h p = q at *
  clear hi hsl I H ho hgl hsp
  cases q with
  | true =>
    go_enter Tryd.func55, Tryd.ntmps55
    go_wp2_with (go_at_call 45; refine HSH.out.mono ?_; rintro _ w1 ⟨rfl, hc1⟩)
    go_ret
    exact ⟨rfl, vo, by simpa using HI.out.still hc1⟩
  | false =>
    go_enter Tryd.func55, Tryd.ntmps55
    go_upto_region 2 with (go_at_call 45; refine HSH.out.mono ?_; rintro _ w1 ⟨rfl, hc1⟩)
    have hi1 := HI.out.still hc1
    have d0 := cell_of_block (i := 0) hi1.obb rfl
    simp only [List.getElem_toArray, List.getElem_cons_zero] at d0
    have HI1 := Lib.hid hi1
    have FR : Hid (∀ W1, Chg (fun k => vo.ownBlock = some k) (w1.alloc (.cells #[.int .i64 p] 3)) W1 → (∃ u, W1.cell? ⟨ob, 0, none⟩ = some u) ∧ W1.frozen? ⟨ob, 0, none⟩ = false) := Lib.hid (fun W1 hc => by
      have hb := hc.keep ((Chg.alloc (fun _ => False) w1 _).keep hi1.obb (fun x => x)) (fun e => (hi1.new ob e).2.2 rfl)
      exact ⟨⟨_, cell_of_block (i := 0) hb rfl⟩, frozen_of_block hb⟩)
    obtain ⟨ao, co, rfl, -, -⟩ := hi1.row.slice
    clear hi1 HI HSH c0
    go_wp2_with (at_builtin; refine wpList_outR rfl (.tmp 11) (.tmp 13) rfl _ out rfl (HI1.out.row.alloc _) _ [p] rfl (RowAt.lit [.int .i64 p] rfl (by simp [maxLen])) (⟨by have := HO.out; simp only [List.length_cons, List.length_nil]; omega⟩ : Few _) ?_; intro a2 n2 c2 w2 hrow2 hchg2 hold2; obtain ⟨⟨u2, hu2⟩, hf2⟩ := FR.out w2 hchg2)
    go_ret
    have hx : Chg (fun k => (Value.slice ao out.length co).ownBlock = some k) w1 w2 := (Chg.alloc (fun _ => False) w1 _).trans hchg2 (fun _ _ x => x.elim) (fun _ _ x => x)
    refine ⟨rfl, .slice a2 n2 c2, ?_⟩
    refine HI1.out.more HSL.out hx hrow2 (fun k hk => ?_)
    rcases hold2 k hk with x | x
    · exact .inl x
    · exact .inr (by rw [World.size_alloc] at x; omega)
/-- Where the first page without an entry is. -/
def findG (h : Hist) : List Int → Nat → Option Nat
  | [], _ => none
  | p :: l, k => if shownP h p = true then findG h l (k + 1) else some k
def idxG : Option Nat → Int
  | none => -1
  | some i => (i : Int)
def outG (l : List Int) : Option Nat → List Int
  | none => []
  | some i => [l.getD i 0]
theorem findG_none (h : Hist) : ∀ (l : List Int) (k : Nat), findG h l k = none → goneL h l = [] ∧ keptL h l = l
  | [], k, _ => ⟨rfl, rfl⟩
  | p :: l, k, he => by
    by_cases hq : shownP h p = true
    · rw [findG, if_pos hq] at he
      obtain ⟨h1, h2⟩ := findG_none h l (k + 1) he
      unfold goneL keptL at *
      exact ⟨by simp [hq, h1], by simp [hq, h2]⟩
    · rw [findG, if_neg hq] at he
      cases he
theorem findG_some (h : Hist) : ∀ (l : List Int) (k i : Nat), findG h l k = some i → ∃ j, i = k + j ∧ ∃ hj : j < l.length, goneL h (l.take (j + 1)) = goneL h [l[j]] ∧ keptL h (l.take (j + 1)) = l.take j
  | [], k, i, he => by cases he
  | p :: l, k, i, he => by
    by_cases hq : shownP h p = true
    · rw [findG, if_pos hq] at he
      obtain ⟨j, h1, hj, h2, h3⟩ := findG_some h l (k + 1) i he
      refine ⟨j + 1, by omega, by simp; omega, ?_, ?_⟩
      · unfold goneL at *; simp only [List.take_succ_cons, List.getElem_cons_succ]; rw [List.filter_cons, if_neg (by simp [hq]), h2]
      · unfold keptL at *; simp only [List.take_succ_cons]; rw [List.filter_cons, if_pos hq, h3]
    · rw [findG, if_neg hq] at he
      cases he
      refine ⟨0, rfl, by simp, ?_, ?_⟩
      · simp [goneL]
      · simp [keptL, hq]
set_option maxHeartbeats 1600000 in
set_option maxRecDepth 100000 in
theorem indexFuncI_any (w0 : Past) (ws : World) (b : Nat) (h : Hist) (vl vs : Value) (rs : List EntR) (H : HiAt w0 ws b h vl vs rs) (pb ob : Nat) (W : World) (l : List Int) (vo : Value) (I : ClI ws b vs pb ob W l [] vo) :
    Calls Tryd.prog 70 #[vs, .func (.func 55) #[] #[.pointer (some ⟨pb, 0, none⟩), .pointer (some ⟨ob, 0, none⟩)]] W fun e w' => e = .returned (.int .i64 (idxG (findG h l 0))) ∧ ∃ vo', ClI ws b vs pb ob w' l (outG l (findG h l 0)) vo' := by
  have HH := Lib.hid H
  have HL := Lib.hid I.few
  obtain ⟨a, cap, rfl, hc1, hc2⟩ := I.slp.slice
  have HI := Lib.hid I
  clear H I hc1 hc2
  go_enter Tryd.func70, Tryd.ntmps70
  go_wp2_with fail
  go_loopw [5, 8] (fun _ i wr => ∃ k : Nat, k ≤ l.length ∧ i = .int .i64 k ∧ Hid (∃ vo', ClI ws b (.slice a l.length cap) pb ob wr l [] vo') ∧ Hid (findG h l 0 = findG h (l.drop k) k)) (fun _ i _ => l.length - (intOf i).toNat)
  case atStart => exact ⟨0, Nat.zero_le _, rfl, Lib.hid ⟨vo, HI.out⟩, rfl⟩
  case round =>
    obtain ⟨k, hk, rfl, HX, HF⟩ := hrel
    by_cases hlt : k < l.length
    · obtain ⟨vo1, hx⟩ := HX.out
      have HX1 := Lib.hid hx
      obtain ⟨g, off, cap', hv, -, -⟩ := hx.slp.addr (by omega)
      simp only [Value.slice.injEq] at hv
      obtain ⟨rfl, _, rfl⟩ := hv
      have c0 := hx.slp.cellAt k (.int .i64 l[k]) (by simp [intC, hlt])
      have hF := HF.out
      rw [List.drop_eq_getElem_cons hlt, findG] at hF
      have HG := Lib.hid (show l.getD k 0 = l[k] from by rw [List.getD_eq_getElem?_getD, List.getElem?_eq_getElem hlt]; rfl)
      have HC := Lib.hid (clean1_any w0 ws b h vl _ rs HH.out pb ob wr l [] vo1 hx l[k] (Nat.zero_le _))
      have hg1 : goneL h [l[k]] = if shownP h l[k] = true then [] else [l[k]] := by
        unfold goneL
        by_cases hq : shownP h l[k] = true
        · simp [hq]
        · simp only [Bool.not_eq_true] at hq; simp [hq]
      rw [hg1] at HC
      have w64 : IntKind.i64.wrap ((k : Int) + 1) = ((k + 1 : Nat) : Int) := IntWalk.i64_in _ (by have := HL.out; omega)
      have HNX : Hid (k + 1 ≤ l.length) := Lib.hid hlt
      clear HX hx hg1 HI
      generalize l[k] = p at *
      generalize shownP h p = q at *
      have HF2 := Lib.hid hF
      clear hF
      go_wp2_with fail
      refine HC.out.mono ?_
      rintro e w2 ⟨rfl, vo2, hI2⟩
      have hF := HF2.out
      have HI2 := Lib.hid hI2
      clear hI2
      cases q with
      | true =>
        rw [if_pos rfl] at hF
        have HF3 := Lib.hid hF
        clear hF HF HF2 c0
        go_wp2_with fail
        go_roundw
        case rel => exact ⟨k + 1, HNX.out, rfl, Lib.hid ⟨vo2, by simpa using HI2.out⟩, HF3⟩
        case measure => have := HNX.out; simp [intOf, w64]; omega
      | false =>
        rw [if_neg (by simp)] at hF
        have HF3 := Lib.hid hF
        clear hF HF HF2 c0
        go_wp2_with fail
        go_ret
        refine ⟨by rw [HF3.out]; rfl, vo2, ?_⟩
        rw [HF3.out]
        show ClI _ _ _ _ _ _ _ [l.getD k 0] _
        rw [HG.out]
        simpa using HI2.out
    · have i1 : ¬ (k : Int) < (l.length : Int) := by omega
      have hF := HF.out
      rw [List.drop_of_length_le (by omega), findG] at hF
      obtain ⟨vo1, hx⟩ := HX.out
      have HX1 := Lib.hid hx
      have HF2 := Lib.hid hF
      clear hF HF hx HX
      go_wp2_with fail
      go_ret
      refine ⟨by rw [HF2.out]; rfl, vo1, ?_⟩
      rw [HF2.out]
      exact HX1.out
end Go.Proofs.YtiecgbmeobpomaaDoor
namespace Go.Proofs.YtiecgbmeobpomaaDoor
open Go.RowKit
set_option linter.unusedVariables false
set_option linter.unusedSimpArgs false

def Msg0 : Msg := ⟨[], []⟩
def Ent0 : Ent := ⟨0, 0, ⟨#[]⟩, ⟨#[]⟩, Msg0, 0, 0⟩
/-- A move. -/
structure Mv where
  entry : Ent
  page : Int
  awake : Bool
  sleeps : Bool
  closed : List Int
def Mv0 : Mv := ⟨Ent0, 0, false, false, []⟩
def curE (h : Hist) : Ent := h.list.getD h.at_ Ent0
theorem curE_get (h : Hist) (ok : h.at_ < h.list.length) : h.list[h.at_]? = some (curE h) := by
  unfold curE
  rw [List.getD_eq_getElem?_getD, List.getElem?_eq_getElem ok]
  rfl
theorem curE_mem (h : Hist) (ok : h.at_ < h.list.length) : curE h ∈ h.list := List.mem_of_getElem? (curE_get h ok)
def cleanM (h : Hist) : Hist := { h with sleeping := keptL h h.sleeping }
def sleepM (h : Hist) (p : Int) : Hist := { h with sleeping := sorted (h.sleeping ++ [p]) }
def navE (h : Hist) (url : ByteArray) : Ent := ⟨0, h.nextPage, url, ⟨#[]⟩, Msg0, 0, 0⟩
def navH (h : Hist) (url : ByteArray) : Hist := { addM h (navE h url) with nextPage := h.nextPage + 1 }
def navS (h : Hist) (url : ByteArray) (keep : Bool) : Bool := keep && shownP (navH h url) (curE h).page
def navM (h : Hist) (url : ByteArray) (keep : Bool) : Hist := if navS h url keep = true then sleepM (cleanM (navH h url)) (curE h).page else cleanM (navH h url)
def navV (h : Hist) (url : ByteArray) (keep : Bool) : Mv := ⟨curE (navH h url), (curE (navH h url)).page, false, navS h url keep, if navS h url keep = true then goneL (navH h url) h.sleeping else sorted (goneL (navH h url) h.sleeping ++ [(curE h).page])⟩
def pushE (h : Hist) (url : ByteArray) (m : Msg) : Ent := { curE h with url := url, msg := m }
def pushH (h : Hist) (url : ByteArray) (m : Msg) : Hist := addM h (pushE h url m)
def pushM (h : Hist) (url : ByteArray) (m : Msg) : Hist := cleanM (pushH h url m)
def pushV (h : Hist) (url : ByteArray) (m : Msg) : Mv := ⟨curE (pushH h url m), (curE h).page, true, false, goneL (pushH h url m) h.sleeping⟩
def replM (h : Hist) (url : ByteArray) (m : Msg) : Hist := { h with list := h.list.set h.at_ (pushE h url m) }
def GoOk (h : Hist) (d : Int) : Prop := -(h.at_ : Int) ≤ d ∧ d ≤ (h.list.length : Int) - 1 - (h.at_ : Int)
def goH (h : Hist) (d : Int) : Hist := { h with at_ := ((h.at_ : Int) + d).toNat }
def goM (h : Hist) (d : Int) : Hist := if (curE (goH h d)).page = (curE h).page then goH h d else sleepM { goH h d with sleeping := h.sleeping.erase (curE (goH h d)).page } (curE h).page
def goV (h : Hist) (d : Int) : Mv := if (curE (goH h d)).page = (curE h).page then ⟨curE (goH h d), (curE (goH h d)).page, true, false, []⟩ else ⟨curE (goH h d), (curE (goH h d)).page, decide ((curE (goH h d)).page ∈ h.sleeping), true, []⟩
def scrollM (h : Hist) (x y : Int) : Hist := { h with list := h.list.set h.at_ { curE h with x := x, y := y } }
def nameM (h : Hist) (t : ByteArray) : Hist := { h with list := h.list.set h.at_ { curE h with title := t } }
def evictM (h : Hist) (p : Int) : Hist := { h with sleeping := h.sleeping.erase p }
theorem Few.of_le {n m : Nat} (h : n ≤ m) (hm : m ≤ 1000000) : Few n := ⟨by omega⟩
/-- The sizes behind n operations. -/
structure HOk (n : Nat) (h : Hist) : Prop where
  ok : h.at_ < h.list.length
  len : h.list.length ≤ 50
  slp : h.sleeping.length ≤ n
  next : 0 ≤ h.next ∧ h.next ≤ (n : Int) + 2
  page : 2 ≤ h.nextPage ∧ h.nextPage ≤ (n : Int) + 2
  msgs : ∀ e ∈ h.list, MsgOk e.msg
theorem msgOk0 : MsgOk Msg0 := ⟨⟨by decide⟩, ⟨by decide⟩, fun n hn => by cases hn⟩
theorem addL_mem {h : Hist} {e x : Ent} (hx : x ∈ addL h e) : x ∈ h.list ∨ x = { e with id := h.next } := by
  unfold addL at hx
  simp only at hx
  have h1 : ∀ x, x ∈ h.list.take (h.at_ + 1) ++ [{ e with id := h.next }] → x ∈ h.list ∨ x = { e with id := h.next } := fun x hx => by
    rcases List.mem_append.1 hx with a | a
    · exact .inl (List.mem_of_mem_take a)
    · exact .inr (List.mem_singleton.1 a)
  split at hx
  · exact h1 x (List.mem_of_mem_drop hx)
  · exact h1 x hx
theorem addL_length {h : Hist} {e : Ent} (ok : h.at_ < h.list.length) : (addL h e).length = min (h.at_ + 2) (if 50 < h.at_ + 2 then h.at_ + 1 else h.at_ + 2) := by
  unfold addL
  simp only
  have hl : (h.list.take (h.at_ + 1) ++ [{ e with id := h.next }]).length = h.at_ + 2 := by rw [List.length_append, List.length_take]; simp; omega
  rw [hl]
  split
  · rw [List.length_drop, hl]; omega
  · rw [hl]; omega
theorem addL_last (h : Hist) (e : Ent) : ∃ l, addL h e = l ++ [{ e with id := h.next }] := by
  unfold addL
  simp only
  split
  · rename_i hx
    by_cases h0 : h.list.take (h.at_ + 1) = []
    · rw [h0] at hx; simp at hx
    · refine ⟨(h.list.take (h.at_ + 1)).drop 1, ?_⟩
      rw [List.drop_append_of_le_length (List.length_pos_iff.2 h0)]
  · exact ⟨_, rfl⟩
theorem curE_add (h : Hist) (e : Ent) : curE (addM h e) = { e with id := h.next } := by
  obtain ⟨l, hl⟩ := addL_last h e
  unfold curE addM
  simp only
  rw [hl, List.length_append, List.getD_eq_getElem?_getD]
  simp
theorem addM_ok (h : Hist) (e : Ent) : (addM h e).at_ < (addM h e).list.length := by
  obtain ⟨l, hl⟩ := addL_last h e
  unfold addM
  simp only
  rw [hl, List.length_append]
  simp
theorem HOk.add {n : Nat} {h : Hist} (H : HOk n h) {e : Ent} (he : MsgOk e.msg) : HOk (n + 1) (addM h e) := by
  refine ⟨addM_ok h e, ?_, ?_, ?_, ?_, fun x hx => ?_⟩
  · show (addL h e).length ≤ 50
    rw [addL_length H.ok]
    have h1 := H.ok
    have h2 := H.len
    split <;> omega
  · show h.sleeping.length ≤ n + 1
    have := H.slp; omega
  · show 0 ≤ h.next + 1 ∧ h.next + 1 ≤ ((n + 1 : Nat) : Int) + 2
    have := H.next; omega
  · show 2 ≤ h.nextPage ∧ h.nextPage ≤ ((n + 1 : Nat) : Int) + 2
    have := H.page; omega
  · rcases addL_mem hx with a | rfl
    · exact H.msgs x a
    · exact he
theorem keptL_le (h : Hist) (l : List Int) : (keptL h l).length ≤ l.length := List.length_filter_le ..
theorem goneL_le (h : Hist) (l : List Int) : (goneL h l).length ≤ l.length := List.length_filter_le ..
theorem HOk.clean {n : Nat} {h : Hist} (H : HOk n h) : HOk n (cleanM h) :=
  ⟨H.ok, H.len, Nat.le_trans (keptL_le _ _) H.slp, H.next, H.page, H.msgs⟩
theorem HOk.navH {n : Nat} {h : Hist} (H : HOk n h) (url : ByteArray) : HOk (n + 1) (navH h url) ∧ (navH h url).sleeping.length ≤ n := by
  have k := H.add (e := navE h url) msgOk0
  refine ⟨⟨k.ok, k.len, k.slp, k.next, ?_, k.msgs⟩, H.slp⟩
  show 2 ≤ h.nextPage + 1 ∧ h.nextPage + 1 ≤ ((n + 1 : Nat) : Int) + 2
  have := H.page; omega
theorem HOk.nav {n : Nat} {h : Hist} (H : HOk n h) (url : ByteArray) (keep : Bool) : HOk (n + 1) (navM h url keep) := by
  obtain ⟨k, hs⟩ := H.navH url
  unfold navM
  split
  · refine ⟨k.ok, k.len, ?_, k.next, k.page, k.msgs⟩
    show (sorted (keptL _ _ ++ [_])).length ≤ n + 1
    rw [sorted_length, List.length_append]
    have := keptL_le (Go.Proofs.YtiecgbmeobpomaaDoor.navH h url) (Go.Proofs.YtiecgbmeobpomaaDoor.navH h url).sleeping
    simp only [List.length_singleton]
    exact Nat.succ_le_succ (Nat.le_trans this hs)
  · exact k.clean
theorem HOk.push {n : Nat} {h : Hist} (H : HOk n h) (url : ByteArray) {m : Msg} (hm : MsgOk m) : HOk (n + 1) (pushM h url m) := (H.add (e := pushE h url m) hm).clean
theorem HOk.mono {n m : Nat} {h : Hist} (H : HOk n h) (hm : n ≤ m) : HOk m h :=
  ⟨H.ok, H.len, Nat.le_trans H.slp hm, ⟨H.next.1, by have := H.next.2; omega⟩, ⟨H.page.1, by have := H.page.2; omega⟩, H.msgs⟩
theorem HOk.set {n : Nat} {h : Hist} (H : HOk n h) {e : Ent} (he : MsgOk e.msg) : HOk n { h with list := h.list.set h.at_ e } := by
  refine ⟨by show h.at_ < (h.list.set h.at_ e).length; rw [List.length_set]; exact H.ok, by show (h.list.set h.at_ e).length ≤ 50; rw [List.length_set]; exact H.len, H.slp, H.next, H.page, fun x hx => ?_⟩
  rcases List.mem_or_eq_of_mem_set hx with a | rfl
  · exact H.msgs x a
  · exact he
theorem HOk.repl {n : Nat} {h : Hist} (H : HOk n h) (url : ByteArray) {m : Msg} (hm : MsgOk m) : HOk n (replM h url m) := H.set (e := pushE h url m) hm
theorem HOk.scroll {n : Nat} {h : Hist} (H : HOk n h) (x y : Int) : HOk n (scrollM h x y) := H.set (e := { curE h with x := x, y := y }) (H.msgs (curE h) (curE_mem h H.ok))
theorem HOk.name {n : Nat} {h : Hist} (H : HOk n h) (t : ByteArray) : HOk n (nameM h t) := H.set (e := { curE h with title := t }) (H.msgs (curE h) (curE_mem h H.ok))
theorem HOk.evict {n : Nat} {h : Hist} (H : HOk n h) (p : Int) : HOk n (evictM h p) := ⟨H.ok, H.len, Nat.le_trans (List.length_erase_le) H.slp, H.next, H.page, H.msgs⟩
theorem HOk.goH {n : Nat} {h : Hist} (H : HOk n h) {d : Int} (hd : GoOk h d) : HOk n (goH h d) := by
  refine ⟨?_, H.len, H.slp, H.next, H.page, H.msgs⟩
  show ((h.at_ : Int) + d).toNat < h.list.length
  have := H.ok
  unfold GoOk at hd
  omega
theorem HOk.go {n : Nat} {h : Hist} (H : HOk n h) {d : Int} (hd : GoOk h d) : HOk (n + 1) (goM h d) := by
  have k := H.goH hd
  unfold goM
  split
  · exact k.mono (Nat.le_succ n)
  · refine ⟨k.ok, k.len, ?_, (k.mono (Nat.le_succ n)).next, (k.mono (Nat.le_succ n)).page, k.msgs⟩
    show (sorted (h.sleeping.erase _ ++ [_])).length ≤ n + 1
    rw [sorted_length, List.length_append, List.length_singleton]
    exact Nat.succ_le_succ (Nat.le_trans List.length_erase_le H.slp)
theorem sorted_perm (l : List Int) : (sorted l).Perm l := List.mergeSort_perm ..
theorem sorted_mem {l : List Int} {x : Int} : x ∈ sorted l ↔ x ∈ l := (sorted_perm l).mem_iff
theorem sorted_nodup {l : List Int} : (sorted l).Nodup ↔ l.Nodup := (sorted_perm l).nodup_iff
/-- The pages: those that sleep are distinct, not the current one, old ones, and have entries. -/
structure PgOk (h : Hist) : Prop where
  asc : h.sleeping.Pairwise (· < ·)
  cur : (curE h).page ∉ h.sleeping
  lt : ∀ p ∈ h.sleeping, 1 ≤ p ∧ p < h.nextPage
  old : ∀ e ∈ h.list, 1 ≤ e.page ∧ e.page < h.nextPage
theorem asc_nodup {l : List Int} (h : l.Pairwise (· < ·)) : l.Nodup := h.imp fun h e => by omega
theorem PgOk.nd {h : Hist} (P : PgOk h) : h.sleeping.Nodup := asc_nodup P.asc
theorem sorted_asc {l : List Int} (h : l.Nodup) : (sorted l).Pairwise (· < ·) := by
  have h1 : (sorted l).Pairwise fun x y => decide (x ≤ y) = true := List.pairwise_mergeSort (fun a b c h1 h2 => by simp at *; omega) (fun a b => by simp; omega) l
  have h2 : (sorted l).Pairwise (· ≠ ·) := sorted_nodup.2 h
  refine (h1.and h2).imp ?_
  rintro a b ⟨h3, h4⟩
  have : a ≤ b := by simpa using h3
  omega
theorem asc_snoc {l : List Int} {x : Int} (h : l.Pairwise (· < ·)) (hx : x ∉ l) : (sorted (l ++ [x])).Pairwise (· < ·) := by
  refine sorted_asc ?_
  rw [List.nodup_append]
  refine ⟨asc_nodup h, by simp, fun a ha b hb => ?_⟩
  rw [List.mem_singleton] at hb
  subst hb
  exact fun e => hx (e ▸ ha)
theorem mem_snoc {l : List Int} {x y : Int} : y ∈ sorted (l ++ [x]) ↔ y ∈ l ∨ y = x := by
  rw [sorted_mem, List.mem_append, List.mem_singleton]
theorem PgOk.nav {n : Nat} {h : Hist} (P : PgOk h) (H : HOk n h) (url : ByteArray) (keep : Bool) : PgOk (navM h url keep) := by
  have hc : curE (navH h url) = { navE h url with id := h.next } := curE_add h (navE h url)
  have hold : ∀ e ∈ (navH h url).list, 1 ≤ e.page ∧ e.page < h.nextPage + 1 := fun e he => by
    rcases addL_mem he with a | rfl
    · have := P.old e a; omega
    · show 1 ≤ h.nextPage ∧ h.nextPage < h.nextPage + 1
      have := H.page; omega
  have hk : ∀ p, p ∈ keptL (navH h url) h.sleeping → p ∈ h.sleeping := fun p hp => (List.mem_filter.1 hp).1
  have hcur := P.old _ (curE_mem h H.ok)
  have hnx : ∀ p ∈ keptL (navH h url) h.sleeping, 1 ≤ p ∧ p < h.nextPage := fun p hp => P.lt p (hk p hp)
  have hnd : (keptL (navH h url) h.sleeping).Pairwise (· < ·) := P.asc.filter _
  unfold navM
  split
  · refine ⟨asc_snoc hnd (fun hp => P.cur (hk _ hp)), fun hp => ?_, fun p hp => ?_, hold⟩
    · have hp : (curE (navH h url)).page ∈ sorted (keptL (navH h url) h.sleeping ++ [(curE h).page]) := hp
      rw [hc] at hp
      rcases mem_snoc.1 hp with a | a
      · have h1 : h.nextPage < h.nextPage := (hnx _ a).2
        omega
      · have a : h.nextPage = (curE h).page := a
        omega
    · show 1 ≤ p ∧ p < h.nextPage + 1
      rcases mem_snoc.1 hp with a | a
      · have := hnx p a; omega
      · subst a; omega
  · refine ⟨hnd, fun hp => ?_, fun p hp => ?_, hold⟩
    · have hp : (curE (navH h url)).page ∈ keptL (navH h url) h.sleeping := hp
      rw [hc] at hp
      have h1 : h.nextPage < h.nextPage := (hnx _ hp).2
      omega
    · show 1 ≤ p ∧ p < h.nextPage + 1
      have := hnx p hp; omega
theorem PgOk.push {n : Nat} {h : Hist} (P : PgOk h) (H : HOk n h) (url : ByteArray) (m : Msg) : PgOk (pushM h url m) := by
  have hc : curE (pushH h url m) = { pushE h url m with id := h.next } := curE_add h (pushE h url m)
  have hk : ∀ p, p ∈ keptL (pushH h url m) h.sleeping → p ∈ h.sleeping := fun p hp => (List.mem_filter.1 hp).1
  refine ⟨P.asc.filter _, fun hp => ?_, fun p hp => P.lt p (hk p hp), fun e he => ?_⟩
  · have hp : (curE (pushH h url m)).page ∈ keptL (pushH h url m) h.sleeping := hp
    rw [hc] at hp
    exact P.cur (hk _ hp)
  · rcases addL_mem he with a | rfl
    · exact P.old e a
    · exact P.old (curE h) (curE_mem h H.ok)
theorem PgOk.set {n : Nat} {h : Hist} (P : PgOk h) (H : HOk n h) {e : Ent} (he : e.page = (curE h).page) : PgOk { h with list := h.list.set h.at_ e } := by
  refine ⟨P.asc, ?_, P.lt, fun x hx => ?_⟩
  · show (List.getD (h.list.set h.at_ e) h.at_ Ent0).page ∉ h.sleeping
    rw [List.getD_eq_getElem?_getD, List.getElem?_set_self H.ok]
    show e.page ∉ h.sleeping
    rw [he]
    exact P.cur
  · rcases List.mem_or_eq_of_mem_set hx with a | rfl
    · exact P.old x a
    · rw [he]
      exact P.old _ (curE_mem h H.ok)
theorem PgOk.evict {h : Hist} (P : PgOk h) (p : Int) : PgOk (evictM h p) :=
  ⟨P.asc.sublist (List.erase_sublist ..), fun hp => P.cur (List.mem_of_mem_erase hp), fun q hq => P.lt q (List.mem_of_mem_erase hq), P.old⟩
theorem PgOk.go {n : Nat} {h : Hist} (P : PgOk h) (H : HOk n h) {d : Int} (hd : GoOk h d) : PgOk (goM h d) := by
  have k := H.goH hd
  have hcm : curE (goH h d) ∈ h.list := curE_mem (goH h d) k.ok
  unfold goM
  split
  · rename_i he
    exact ⟨P.asc, by show (curE (goH h d)).page ∉ h.sleeping; rw [he]; exact P.cur, P.lt, P.old⟩
  · rename_i hne
    refine ⟨asc_snoc (P.asc.sublist (List.erase_sublist ..)) (fun hp => P.cur (List.mem_of_mem_erase hp)), fun hp => ?_, fun p hp => ?_, P.old⟩
    · have hp : (curE (goH h d)).page ∈ sorted (h.sleeping.erase (curE (goH h d)).page ++ [(curE h).page]) := hp
      rcases mem_snoc.1 hp with a | a
      · exact (P.nd.mem_erase_iff.1 a).1 rfl
      · exact hne a
    · rcases mem_snoc.1 hp with a | a
      · exact P.lt p (List.mem_of_mem_erase a)
      · subst a; exact P.old _ (curE_mem h H.ok)
end Go.Proofs.YtiecgbmeobpomaaDoor
namespace Go.Proofs.YtiecgbmeobpomaaDoor
open Go.RowKit
set_option linter.unusedVariables false
set_option linter.unusedSimpArgs false

/-- Cells of a row (of one cell each) are written. -/
theorem put_cells {w : World} {g off n m cap e i : Nat} {xs zs : List Value} (h : RowAt w e 1 (.slice (some ⟨g, off, none⟩) m cap) n xs) (hi : i + zs.length ≤ n) :
    RowAt (w.setCells g (off + i) zs) e 1 (.slice (some ⟨g, off, none⟩) m cap) n (xs.take i ++ zs ++ xs.drop (i + zs.length)) := by
  obtain ⟨hl, hr⟩ := h
  rcases hr with ⟨h0, -⟩ | ⟨g', off', cap', cur, hv, hg, h1, h2, h3, h4⟩
  · cases h0
  cases hv
  refine ⟨by rw [List.length_append, List.length_append, List.length_take, List.length_drop]; omega, .inr ⟨g, off, cap, _, rfl, setCells_block zs _ hg, h1, h2, by rw [putAt_size]; exact h3, ?_⟩⟩
  have hcl : cur.toList.length = cur.size := Array.length_toList
  rw [putAt_toList _ _ _ (by omega)]
  have hA : (cur.toList.take (off + i)).length = off + i := by rw [List.length_take]; omega
  rw [List.append_assoc, List.drop_append_of_le_length (by omega)]
  have e1 : (cur.toList.take (off + i)).drop off = xs.take i := by
    rw [← h4, List.take_take, Nat.min_eq_left (by omega), List.drop_take]
    congr 1; omega
  have e2 : (cur.toList.drop (off + i + zs.length)).take (n - (i + zs.length)) = xs.drop (i + zs.length) := by
    rw [← h4, List.drop_take, List.drop_drop, Nat.mul_one, show off + i + zs.length = off + (i + zs.length) by omega]
  have hB : (xs.take i).length = i := by rw [List.length_take]; omega
  rw [e1, List.append_assoc, show n * 1 = (xs.take i).length + (n - i) by omega, List.take_length_add_append, show n - i = zs.length + (n - (i + zs.length)) by omega, List.take_length_add_append, e2]
theorem ClI.slept {ws : World} {b : Nat} {vs : Value} {pb ob : Nat} {W W1 : World} {cur cur' out : List Int} {vo : Value} (I : ClI ws b vs pb ob W cur out vo) (hsl : ∀ k, vs.ownBlock = some k → k < ws.heap.size) (hc : Chg (fun k => vs.ownBlock = some k) W W1) (hr : RowAt W1 3 1 vs cur'.length (intC cur')) (hf : cur'.length ≤ 1000) : ClI ws b vs pb ob W1 cur' out vo :=
  ⟨hr, hf, hc.cellS I.pbc (fun e => by have := hsl pb e; have := I.lo.1; omega), hc.keep I.obb (fun e => by have := hsl ob e; have := I.lo.2.1; omega), I.row.chg hc (fun k hk e => by have := hsl k e; have := (I.new k hk).1; omega), I.new, I.lo, I.chg.trans hc (fun _ _ x => x) (fun _ _ x => x)⟩
/-- The loop of DeleteFunc: i pages kept in front, the page j is next. -/
structure DfI (h : Hist) (l cur out : List Int) (i j : Nat) : Prop where
  len : cur.length = l.length
  lt : i < j ∧ j ≤ l.length
  front : cur.take i = keptL h (l.take j)
  rest : cur.drop j = l.drop j
  out : out = goneL h (l.take j)
theorem DfI.begin {h : Hist} {l : List Int} {i : Nat} (hf : findG h l 0 = some i) : DfI h l l (outG l (some i)) i (i + 1) := by
  obtain ⟨j, h1, hj, h2, h3⟩ := findG_some h l 0 i hf
  have hi : i = j := by omega
  subst hi
  refine ⟨rfl, ⟨Nat.lt_succ_self _, hj⟩, h3.symm, rfl, ?_⟩
  rw [h2]
  have hg : outG l (some i) = [l[i]] := by
    show [l.getD i 0] = [l[i]]
    rw [List.getD_eq_getElem?_getD, List.getElem?_eq_getElem hj]; rfl
  rw [hg]
  unfold goneL keptL at *
  rw [List.take_succ_eq_append_getElem hj, List.filter_append] at h3
  have hlen := congrArg List.length h3
  rw [List.length_append, List.length_take] at hlen
  have hle := List.length_filter_le (shownP h) (l.take i)
  rw [List.length_take] at hle
  by_cases hq : shownP h l[i] = true
  · exfalso
    have h5 : (List.filter (fun p => !shownP h p) (l.take (i + 1))) = [] := by rw [h2]; simp [hq]
    have h6 : List.filter (shownP h) (l.take (i + 1)) = l.take (i + 1) := List.filter_eq_self.2 fun a ha => by
      have := List.filter_eq_nil_iff.1 h5 a ha
      simpa using this
    rw [List.take_succ_eq_append_getElem hj, List.filter_append, h3] at h6
    have h7 := congrArg List.length h6
    rw [List.length_append, List.length_singleton] at h7
    omega
  · simp [hq]
theorem DfI.step {h : Hist} {l cur out : List Int} {i j : Nat} (I : DfI h l cur out i j) (hj : j < l.length) : cur[j]? = some l[j] ∧
    (shownP h l[j] = true → DfI h l (cur.take i ++ [l[j]] ++ cur.drop (i + 1)) (out ++ goneL h [l[j]]) (i + 1) (j + 1)) ∧ (¬ shownP h l[j] = true → DfI h l cur (out ++ goneL h [l[j]]) i (j + 1)) := by
  have h0 : cur[j]? = some l[j] := by
    have := congrArg (fun l : List Int => l[0]?) I.rest
    simp only [List.getElem?_drop, Nat.add_zero] at this
    rw [this, List.getElem?_eq_getElem hj]
  have hrest : cur.drop (j + 1) = l.drop (j + 1) := by rw [← List.drop_drop, ← List.drop_drop, I.rest]
  have hlt := I.lt.1
  have hl := I.len
  have hout : out ++ goneL h [l[j]] = goneL h (l.take (j + 1)) := by
    rw [I.out]; unfold goneL; rw [List.take_succ_eq_append_getElem hj, List.filter_append]
  have hkp : keptL h (l.take (j + 1)) = cur.take i ++ keptL h [l[j]] := by
    rw [I.front]; unfold keptL; rw [List.take_succ_eq_append_getElem hj, List.filter_append]
  have hti : (cur.take i).length = i := by rw [List.length_take]; omega
  refine ⟨h0, fun hq => ⟨?_, ⟨by omega, hj⟩, ?_, ?_, hout⟩, fun hq => ⟨hl, ⟨by omega, hj⟩, ?_, hrest, hout⟩⟩
  · rw [List.length_append, List.length_append, hti, List.length_drop, List.length_singleton]; omega
  · rw [hkp, List.append_assoc, show i + 1 = (cur.take i).length + 1 by omega, List.take_length_add_append]
    simp [keptL, hq]
  · rw [List.append_assoc, List.drop_append, List.drop_of_length_le (by omega), List.nil_append, hti, show j + 1 - i = 1 + (j - i) by omega, List.singleton_append, ← List.drop_drop, List.drop_succ_cons, List.drop_zero, List.drop_drop, show i + 1 + (j - i) = j + 1 by omega]
    exact hrest
  · rw [hkp]
    simp [keptL, hq]
theorem DfI.done {h : Hist} {l cur out : List Int} {i j : Nat} (I : DfI h l cur out i j) (hj : ¬ j < l.length) : cur.take i = keptL h l ∧ out = goneL h l ∧ i = (keptL h l).length := by
  have h1 := I.front
  have h2 := I.out
  rw [List.take_of_length_le (l := l) (i := j) (by omega)] at h1 h2
  refine ⟨h1, h2, ?_⟩
  rw [← h1, List.length_take]
  have := I.lt
  have := I.len
  omega
theorem zeroI {z : Value} (hz : z.cells.toList = [.int .i64 0]) (n : Nat) : (Builtin.zeroCells z.cells n).toList = intC (List.replicate n 0) := by
  have hs : z.cells.size = 1 := by rw [← Array.length_toList, hz]; rfl
  have h1 : (Builtin.zeroCells z.cells n).toList = List.replicate n (.int .i64 0) := by
    refine List.eq_replicate_iff.2 ⟨by rw [Array.length_toList, size_zeroCells, hs, Nat.mul_one], fun u hu => ?_⟩
    unfold Builtin.zeroCells at hu
    rw [Array.toList_map, List.mem_map] at hu
    obtain ⟨j, hj, rfl⟩ := hu
    have hj2 : j % z.cells.size < z.cells.size := Nat.mod_lt _ (by omega)
    rw [getElem!_pos z.cells (j % z.cells.size) hj2]
    have := Array.getElem_mem_toList hj2
    rw [hz] at this
    exact List.mem_singleton.1 this
  rw [h1, intC, List.map_replicate]
set_option maxHeartbeats 1600000 in
set_option maxRecDepth 100000 in
theorem deleteFuncI_any (w0 : Past) (ws : World) (b : Nat) (h : Hist) (vl vs : Value) (rs : List EntR) (H : HiAt w0 ws b h vl vs rs) (pb ob : Nat) (W : World) (l : List Int) (vo : Value) (I : ClI ws b vs pb ob W l [] vo) :
    Calls Tryd.prog 54 #[vs, .func (.func 55) #[] #[.pointer (some ⟨pb, 0, none⟩), .pointer (some ⟨ob, 0, none⟩)]] W fun e w' => ∃ v' cur vo', e = .returned v' ∧ ClI ws b vs pb ob w' cur (goneL h l) vo' ∧ RowAt w' 3 1 v' (keptL h l).length (intC (keptL h l)) ∧ ∀ k, v'.ownBlock = some k → vs.ownBlock = some k := by
  have HH := Lib.hid H
  have HSL := Lib.hid (show ∀ k, vs.ownBlock = some k → k < ws.heap.size from H.slp.lt)
  have HL := Lib.hid I.few
  have HIX := Lib.hid (indexFuncI_any w0 ws b h vl vs rs H pb ob W l vo I)
  have HFB := Lib.hid (fun i (e : findG h l 0 = some i) => DfI.begin e)
  cases hf : findG h l 0 with
  | none =>
    rw [hf] at HIX
    obtain ⟨hg, hk⟩ := findG_none h l 0 hf
    have HG := Lib.hid hg
    have HK := Lib.hid hk
    obtain ⟨a, cap, rfl, -, -⟩ := I.slp.slice
    have hix : idxG none = -1 := rfl
    rw [hix] at HIX
    clear H I hf hg hk HFB hix
    go_enter Tryd.func54, Tryd.ntmps54
    go_wp2_with (go_at_call 70; refine HIX.out.mono ?_; rintro _ w1 ⟨rfl, vo1, hI1⟩; have HI1 := Lib.hid hI1; clear hI1)
    go_ret
    refine ⟨_, l, vo1, rfl, ?_, ?_, fun k hk => hk⟩
    · rw [HG.out]; exact HI1.out
    · rw [HK.out]; exact HI1.out.slp
  | some i0 =>
    rw [hf] at HIX
    have HB := Lib.hid (HFB.out _ hf)
    have hpos : 0 < l.length := by have := HB.out.lt; omega
    obtain ⟨g, off, cap, rfl, hcap, hcm⟩ := I.slp.addr hpos
    have hix : idxG (some i0) = (i0 : Int) := rfl
    rw [hix] at HIX
    have HCM := Lib.hid hcm
    have ne0 : ¬ (i0 : Int) = -1 := by omega
    have ne1 : ((i0 : Int) == -1) = false := beq_false_of_ne ne0
    have wi0 : IntKind.i64.wrap ((i0 : Int) + 1) = ((i0 + 1 : Nat) : Int) := IntWalk.i64_in _ (by have := HB.out.lt; have := HL.out; omega)
    have wi1 : wrap64 ((i0 : Int) + 1) = ((i0 + 1 : Nat) : Int) := IntWalk.wrap64_in _ (by have := HB.out.lt; have := HL.out; omega)
    clear H I hf HFB hix hcap hcm hpos
    go_enter Tryd.func54, Tryd.ntmps54
    go_wp2_with (go_at_call 70; refine HIX.out.mono ?_; rintro _ w1 ⟨rfl, vo1, hI1⟩; have HI1 := Lib.hid hI1; clear hI1)
    go_loopw [5, 6, 7] (fun i j _ wr => ∃ ii jj : Nat, jj ≤ l.length ∧ i = .int .i64 ii ∧ j = .int .i64 jj ∧ Hid (∃ cur out vo', DfI h l cur out ii jj ∧ ClI ws b (.slice (some ⟨g, off, none⟩) l.length cap) pb ob wr cur out vo')) (fun _ j _ _ => l.length - (intOf j).toNat)
    case atStart => exact ⟨i0, i0 + 1, HB.out.lt.2, rfl, rfl, Lib.hid ⟨l, _, vo1, HB.out, HI1.out⟩⟩
    case round =>
      obtain ⟨ii, jj, hjl, rfl, rfl, HX⟩ := hrel
      by_cases hlt : jj < l.length
      · obtain ⟨cur, out, vo2, hD, hI2⟩ := HX.out
        obtain ⟨h0, hk, hg⟩ := hD.step hlt
        have HC := Lib.hid (clean1_any w0 ws b h vl _ rs HH.out pb ob wr cur out vo2 hI2 l[jj] (by rw [hD.out]; exact Nat.le_trans (goneL_le _ _) (by rw [List.length_take]; have := HL.out; omega)))
        have c0 := hI2.slp.cellAt jj (.int .i64 l[jj]) (by rw [intC, List.getElem?_map, h0]; rfl)
        have HK := Lib.hid hk
        have HG := Lib.hid hg
        have HCL := Lib.hid hD.len
        have HIJ := Lib.hid hD.lt.1
        have HNX : Hid (jj + 1 ≤ l.length) := Lib.hid hlt
        have w64 : IntKind.i64.wrap ((jj : Int) + 1) = ((jj + 1 : Nat) : Int) := IntWalk.i64_in _ (by have := HL.out; omega)
        have w65 : IntKind.i64.wrap ((ii : Int) + 1) = ((ii + 1 : Nat) : Int) := IntWalk.i64_in _ (by have := HL.out; have := hD.lt.1; omega)
        clear HX hD hI2 h0 hk hg HI1 HB HIX
        generalize l[jj] = p at *
        generalize shownP h p = q at *
        go_upto_region 8 with fail
        go_wp2_with fail
        refine HC.out.mono ?_
        rintro e w2 ⟨rfl, vo3, hI3⟩
        have HI3 := Lib.hid hI3
        have hbi : (ii : Int) < (l.length : Int) := by have := HIJ.out; omega
        have hil : ii < cur.length := by have := HIJ.out; have := HCL.out; omega
        obtain ⟨u0, d0⟩ : ∃ u, w2.cell? ⟨g, off + ii, none⟩ = some u := ⟨_, hI3.slp.cellAt ii (.int .i64 cur[ii]) (by rw [intC, List.getElem?_map, List.getElem?_eq_getElem hil]; rfl)⟩
        obtain ⟨curA, hgA⟩ : ∃ curA, w2.heap[g]? = some (.cells curA 3 (0, 0)) := by
          rcases hI3.slp.2 with ⟨hv, -⟩ | ⟨g', off', cap', curA, hv, hg', -⟩
          · cases hv
          · simp only [Value.slice.injEq, Option.some.injEq, Addr.mk.injEq] at hv
            obtain ⟨⟨rfl, -, -⟩, -, -⟩ := hv
            exact ⟨_, hg'⟩
        have f0 := frozen_of_block (i := off + ii) hgA
        clear hI3 c0 hil hgA HC
        cases q with
        | true =>
          have hK := HK.out rfl
          have HK2 := Lib.hid hK
          clear hK HK HG
          go_wp2_with fail
          go_roundw
          case rel =>
            have hI3 := HI3.out
            have hr := put_cells (zs := [.int .i64 p]) (i := ii) hI3.slp (by have := HIJ.out; have := HCL.out; simp only [List.length_singleton]; omega)
            have hx : intC (cur.take ii ++ [p] ++ cur.drop (ii + 1)) = (intC cur).take ii ++ [.int .i64 p] ++ (intC cur).drop (ii + ([.int .i64 p] : List Value).length) := by
              simp [intC]
            have hll : (cur.take ii ++ [p] ++ cur.drop (ii + 1)).length = cur.length := by
              have := HIJ.out
              have := HCL.out
              rw [List.length_append, List.length_append, List.length_take, List.length_drop, List.length_singleton]; omega
            refine ⟨ii + 1, jj + 1, HNX.out, rfl, rfl, Lib.hid ⟨_, _, vo3, HK2.out, hI3.slept HSL.out ((Chg.setCell w2 ⟨g, off + ii, none⟩ _).mono (fun k _ e => by have : k = g := e; subst this; rfl)) ?_ ?_⟩⟩
            · rw [hx, hll]; exact hr
            · rw [hll]; exact hI3.few
          case measure => have := HNX.out; simp [intOf, w64]; omega
        | false =>
          have hG := HG.out (by simp)
          have HG2 := Lib.hid hG
          clear hG HK HG
          go_wp2_with fail
          go_roundw
          case rel => exact ⟨ii, jj + 1, HNX.out, rfl, rfl, Lib.hid ⟨_, _, vo3, HG2.out, HI3.out⟩⟩
          case measure => have := HNX.out; simp [intOf, w64]; omega
      · have i1 : ¬ (jj : Int) < (l.length : Int) := by omega
        obtain ⟨cur, out, vo2, hD, hI2⟩ := HX.out
        obtain ⟨hd1, hd2, hd3⟩ := hD.done hlt
        have HD1 := Lib.hid hd1
        have HD2 := Lib.hid hd2
        have HD3 := Lib.hid hd3
        have HCL := Lib.hid hD.len
        have HIJ := Lib.hid hD.lt
        have HI2 := Lib.hid hI2
        have hbi : (ii : Int) ≤ (l.length : Int) := by have := HIJ.out; omega
        have hbi0 : (0 : Int) ≤ (ii : Int) := by omega
        clear hd1 hd2 hd3 hD hI2 hlt HX HI1 HB HIX
        obtain ⟨i0', z, hi, hz, hsz, hby, hzs, hzl⟩ := elemZ_int
        obtain ⟨curA, hgA, hA2, hA3, hA4⟩ : ∃ curA, wr.heap[g]? = some (.cells curA 3 (0, 0)) ∧ off + cap * 1 ≤ curA.size ∧ l.length ≤ cap ∧ cap ≤ maxLen := by
          have := HCL.out
          rcases HI2.out.slp.2 with ⟨hv, -⟩ | ⟨g', off', cap', curA, hv, hg', h1, h2, h3, -⟩
          · cases hv
          · simp only [Value.slice.injEq, Option.some.injEq, Addr.mk.injEq] at hv
            obtain ⟨⟨rfl, rfl, -⟩, -, rfl⟩ := hv
            exact ⟨_, hg', h3, by omega, h2⟩
        have hclr := run_clear_row (P := Tryd.prog) wr 26 3 0 i0' z 1 curA Tryd.underlying26 hi hz hsz hzs (fun u hu => by rw [hzl] at hu; simp only [List.mem_cons, List.not_mem_nil, or_false] at hu; subst hu; rfl) g (off + ii) (l.length - ii) (cap - ii) hgA (by have := HIJ.out; omega) (by have := HIJ.out; omega)
        rw [zeroI hzl] at hclr
        have hch : Chg (fun k => k = g) wr (wr.setCells g (off + ii) (intC (List.replicate (l.length - ii) 0))) := Chg.setCells (b := g) _ wr (off + ii)
        have hr := put_cells (zs := intC (List.replicate (l.length - ii) 0)) (i := ii) HI2.out.slp (by rw [intC_len, List.length_replicate]; have := HIJ.out; have := HCL.out; omega)
        have hcl := HCL.out
        have hx : (intC cur).take ii ++ intC (List.replicate (l.length - ii) 0) ++ (intC cur).drop (ii + (intC (List.replicate (l.length - ii) 0)).length) = intC (cur.take ii ++ List.replicate (l.length - ii) 0) := by
          rw [List.drop_of_length_le (by rw [intC_len, intC_len, List.length_replicate]; omega), List.append_nil]
          simp [intC]
        rw [hx] at hr
        have hll : (cur.take ii ++ List.replicate (l.length - ii) (0 : Int)).length = cur.length := by
          have := HIJ.out
          rw [List.length_append, List.length_take, List.length_replicate]; omega
        have hI4 := HI2.out.slept (cur' := cur.take ii ++ List.replicate (l.length - ii) 0) HSL.out (hch.mono (fun k _ e => by subst e; rfl)) (by rw [hll]; exact hr) (by rw [hll]; exact HI2.out.few)
        rw [hcl] at hr
        have hp := hr.prefix (m := ii) (by have := HIJ.out; omega)
        have hx2 : (intC (cur.take ii ++ List.replicate (l.length - ii) (0 : Int))).take (ii * 1) = intC (keptL h l) := by
          rw [Nat.mul_one, ← HD1.out]
          unfold intC
          rw [← List.map_take, List.take_left' (by rw [List.length_take]; have := HIJ.out; omega)]
        rw [hx2] at hp
        have HP := Lib.hid hp
        have HI4 := Lib.hid hI4
        have hic : (ii : Int) ≤ (cap : Int) := by have := HIJ.out; omega
        have ne3 : ¬ cap = ii := by have := HIJ.out; omega
        clear hch hr hx hll hI4 hp hx2 hgA hA2 hA3 hA4 hi hz hsz hby hzs hzl hcl HI2
        generalize wr.setCells g (off + ii) (intC (List.replicate (l.length - ii) 0)) = w5 at *
        go_wp2_with fail
        go_ret
        refine ⟨_, rfl, ⟨_, vo2, by rw [← HD2.out]; exact HI4.out⟩, ?_, fun k hk => hk⟩
        rw [← HD3.out]
        exact HP.out
end Go.Proofs.YtiecgbmeobpomaaDoor
