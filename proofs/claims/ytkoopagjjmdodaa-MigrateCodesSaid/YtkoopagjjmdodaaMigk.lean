/-
  Encode of layer 54.
-/
import Derived.Test.YtkoopagjjmdodaaMigj
import Derived.Test.YtkoopagjjmdodaaPlaind
namespace Go.Proofs.Ytkoopagjjmdodaa
open Go.RowKit
set_option linter.unusedVariables false

def I64 (n : Int) : Prop := -9223372036854775808 ≤ n ∧ n < 9223372036854775808
structure MsgOk (m : Msg) : Prop where
  kind : I64 m.kind
  frm : I64 m.frm
  dst : I64 m.dst
  epoch : I64 m.epoch
  index : I64 m.index
  count : I64 m.count
  page : m.page.size ≤ 9223372036854775807
  data : m.data.size ≤ 9223372036854775807
def bytesOf (s : ByteArray) : List UInt8 := Kn.enc s.size ++ s.data.toList
def encM (m : Msg) : List UInt8 := encs [m.kind, m.frm, m.dst] ++ bytesOf m.page ++ encs [m.epoch, m.index, m.count] ++ bytesOf m.data

/-- A Writer of our own, and a row of integers beside it. -/
structure WX (w0 w : World) (b : Nat) (v : Value) (bs : List UInt8) (sb : Nat) (zs : List Int) (T : Nat) : Prop where
  own : OwnW w0 w b v bs
  box : w.heap[sb]? = some (.cells (zs.map (Value.int .i64)).toArray T (0, 0))
  ne : sb ≠ b
  nv : ∀ k, v.ownBlock = some k → k ≠ sb
theorem WX.int {w0 w : World} {b : Nat} {v : Value} {bs : List UInt8} {sb T : Nat} {zs : List Int} (h : WX w0 w b v bs sb zs T) (n : Int) (hn : I64 n) (hl : Few bs.length) :
    Calls Try.prog 47 #[.pointer (some ⟨b, 0, none⟩), .int .i64 n] w fun e w' => e = .returned (.tuple #[]) ∧ ∃ v', WX w0 w' b v' (bs ++ Kn.enc (Kn.zig n)) sb zs T :=
  (wInt_any w b v bs n hn.1 hn.2 h.own.wr (by have := hl.lt; have := Kn.enc_len10 (Kn.zig_lt hn.1 hn.2); omega)).mono fun _ _ ⟨he, v', h1, h2⟩ => ⟨he, v', h.own.step h1 h2,
    h2.chg.keep h.box (fun x => x.elim h.ne (fun y => h.nv sb y rfl)), h.ne, fun k hk => by
      rcases h2.row k hk with x | x
      · exact h.nv k x
      · have := lt_of_block h.box; omega⟩
theorem OwnW.str {w0 w : World} {b : Nat} {v : Value} {bs : List UInt8} (h : OwnW w0 w b v bs) (s : ByteArray) (hs : s.size ≤ 1000) (hl : Few bs.length) :
    Calls Try.prog 48 #[.pointer (some ⟨b, 0, none⟩), .string s] w fun e w' => e = .returned (.tuple #[]) ∧ ∃ v', OwnW w0 w' b v' (bs ++ bytesOf s) := by
  refine (h.string s (by have := hl.lt; have := Kn.enc_len10 (n := s.size) (by omega); omega)).mono fun e w' ⟨he, v', h1⟩ => ⟨he, v', ?_⟩
  rw [bytesOf, ← List.append_assoc]; exact h1
theorem encs_few (zs : List Int) (h : ∀ z ∈ zs, I64 z) (hl : zs.length ≤ 3) (k : Nat) : (encs (zs.take k)).length ≤ 30 := by
  have := encs_length (zs.take k) (fun z hz => h z (List.mem_of_mem_take hz))
  have h2 : (zs.take k).length ≤ 3 := by simp; omega
  omega
theorem bytesOf_length (s : ByteArray) (hs : s.size ≤ 1000) : (bytesOf s).length ≤ 1010 := by
  have := Kn.enc_len10 (n := s.size) (by omega)
  have h2 : s.data.toList.length = s.size := by simp
  rw [bytesOf, List.length_append]; omega
theorem formed_sizes {m : Msg} (h : formedB m = true) : m.page.size ≤ 200 ∧ m.data.size ≤ 1000 := by
  have he : ∀ s : ByteArray, s.toList.isEmpty = true → s.size = 0 := by
    intro s hs
    rw [ByteArray.toList_eq] at hs
    have h2 : s.data.toList.length = s.size := by simp
    rw [List.isEmpty_iff.1 hs] at h2
    simp at h2; omega
  unfold formedB Msg.headB Msg.tailB at h
  simp only [Bool.and_eq_true, Bool.not_eq_true', Bool.or_eq_false_iff, decide_eq_false_iff_not, Bool.not_eq_false', decide_eq_true_eq] at h
  obtain ⟨⟨⟨_, h1⟩, _⟩, h2⟩ := h
  refine ⟨h1.2, ?_⟩
  split at h2
  · simp only [Bool.and_eq_true] at h2
    have := he _ h2.2; omega
  · split at h2
    · simp only [Bool.and_eq_true, decide_eq_true_eq] at h2
      have := h2.2; omega
    · split at h2
      · simp only [Bool.and_eq_true] at h2
        have := he _ h2.2; omega
      · split at h2
        · simp only [Bool.and_eq_true] at h2
          have := he _ h2.2; omega
        · cases h2

set_option maxHeartbeats 1600000 in
set_option maxRecDepth 100000 in
theorem encode_no (m : Msg) (w : World) (hm : MsgOk m) (hf : formedB m = false) :
    Calls Try.prog 19 #[.agg m.cells.toArray] w fun e w' => e = .returned (.tuple #[.string ⟨#[]⟩, .int .i64 3]) ∧ Chg (fun _ => False) w w' := by
  have HF := fun W => formed_any m W hm.page hm.data
  have HFF := Lib.hid HF
  clear HF hm
  unfold Msg.cells at HFF ⊢
  go_enter Try.func19, Try.ntmps19
  go_wp2_with fail
  refine (HFF.out _).mono ?_
  rintro e w1 ⟨rfl, hc1⟩
  rw [hf]
  go_wp2_with fail
  go_ret2
  exact ⟨rfl, (Chg.alloc _ w _).trans' hc1⟩

set_option maxHeartbeats 3200000 in
set_option maxRecDepth 100000 in
theorem encode_yes (m : Msg) (w : World) (hm : MsgOk m) (hf : formedB m = true) :
    Calls Try.prog 19 #[.agg m.cells.toArray] w fun e w' => e = .returned (.tuple #[.string ⟨(encM m).toArray⟩, .int .i64 0]) ∧ Chg (fun _ => False) w w' := by
  have HFF : Hid (∀ W, Calls Try.prog 46 #[.agg m.cells.toArray] W fun e w' => e = .returned (.bool (formedB m)) ∧ Chg (fun _ => False) W w') := Lib.hid fun W => formed_any m W hm.page hm.data
  have HZ := Lib.hid (formed_sizes hf)
  have hE : Hid (encM m = encs [m.kind, m.frm, m.dst] ++ bytesOf m.page ++ encs [m.epoch, m.index, m.count] ++ bytesOf m.data) := Lib.hid rfl
  have HB1 : Hid (∀ z ∈ [m.kind, m.frm, m.dst], I64 z) := Lib.hid (by simp only [List.mem_cons, List.not_mem_nil, or_false, forall_eq_or_imp, forall_eq]; exact ⟨hm.kind, hm.frm, hm.dst⟩)
  have HB2 : Hid (∀ z ∈ [m.epoch, m.index, m.count], I64 z) := Lib.hid (by simp only [List.mem_cons, List.not_mem_nil, or_false, forall_eq_or_imp, forall_eq]; exact ⟨hm.epoch, hm.index, hm.count⟩)
  generalize encM m = E at *
  clear hm
  unfold Msg.cells at HFF ⊢
  go_enter Try.func19, Try.ntmps19
  go_wp2_with fail
  refine (HFF.out _).mono ?_
  rintro e w1 ⟨rfl, hc1⟩
  rw [hf]
  have hbx := hc1.keep (alloc_block w _) (fun x => x)
  have hcw1 := (Chg.alloc (fun _ => False) w (.cells #[.int .i64 m.kind, .int .i64 m.frm, .int .i64 m.dst, .string m.page, .int .i64 m.epoch, .int .i64 m.index, .int .i64 m.count, .string m.data] 39)).trans' hc1
  have b0 : w1.cell? ⟨w.heap.size, 0, none⟩ = some (.int .i64 m.kind) := cell_of_block (i := 0) hbx rfl
  have b1 : w1.cell? ⟨w.heap.size, 1, none⟩ = some (.int .i64 m.frm) := cell_of_block (i := 1) hbx rfl
  have b2 : w1.cell? ⟨w.heap.size, 2, none⟩ = some (.int .i64 m.dst) := cell_of_block (i := 2) hbx rfl
  have hb1 := lt_of_block hbx
  have hX : WX w1 ((w1.alloc (.cells #[.slice none 0 0] 90)).alloc (.cells #[.int .i64 m.kind, .int .i64 m.frm, .int .i64 m.dst] 3)) w1.heap.size (.slice none 0 0) [] (w1.heap.size + 1) [m.kind, m.frm, m.dst] 3 := by
    refine ⟨(OwnW.new w1).keep (Chg.alloc _ _ _), ?_, by omega, by simp [Value.ownBlock]⟩
    have := alloc_block (w1.alloc (.cells #[.slice none 0 0] 90)) (.cells #[.int .i64 m.kind, .int .i64 m.frm, .int .i64 m.dst] 3)
    rw [show (w1.alloc (.cells #[.slice none 0 0] 90)).heap.size = w1.heap.size + 1 from by simp] at this
    exact this
  clear hc1 HFF
  go_upto_block 0 with fail
  clear b0 b1 b2
  generalize (w1.alloc (.cells #[.slice none 0 0] 90)).alloc (.cells #[.int .i64 m.kind, .int .i64 m.frm, .int .i64 m.dst] 3) = w2 at *
  have HBX := Lib.hid hbx
  clear hbx
  go_wp2_with fail
  go_loopw [6, 20] (fun _ t wr => ∃ (k : Nat) (v : Value), k ≤ 3 ∧ t = .int .i64 k ∧ WX w1 wr w1.heap.size v (encs ([m.kind, m.frm, m.dst].take k)) (w1.heap.size + 1) [m.kind, m.frm, m.dst] 3) (fun _ t _ => 3 - (intOf t).toNat)
  case atStart => exact ⟨0, _, by omega, rfl, hX⟩
  case round =>
    obtain ⟨k, v, hk, rfl, hX⟩ := hrel
    by_cases hlt : k < 3
    · have hd : decide ((k : Int) < 3) = true := by simp; omega
      have hk3 : (k : Int) < 3 := by omega
      have hk0 : (0 : Int) ≤ (k : Int) := by omega
      obtain ⟨z, hz⟩ : ∃ z, [m.kind, m.frm, m.dst][k]? = some z := ⟨_, List.getElem?_eq_getElem (by simpa using hlt)⟩
      have hcell : wr.cell? ⟨w1.heap.size + 1, k, none⟩ = some (.int .i64 z) := cell_of_block (i := k) hX.box (by rw [List.getElem?_toArray, List.getElem?_map, hz]; rfl)
      have hzi : I64 z := HB1.out z (List.mem_of_getElem? hz)
      have hts : encs ([m.kind, m.frm, m.dst].take (k + 1)) = encs ([m.kind, m.frm, m.dst].take k) ++ Kn.enc (Kn.zig z) := by
        obtain ⟨h1, h2⟩ := List.getElem?_eq_some_iff.1 hz
        rw [encs_take _ k h1, h2]
      have HTS := Lib.hid hts
      have HZI := Lib.hid hzi
      have HLT := Lib.hid hlt
      clear hz hts hzi hlt
      go_wp2_with fail
      refine (hX.int z HZI.out ⟨by have := encs_few _ HB1.out (by simp) k; omega⟩).mono ?_
      rintro e w3 ⟨rfl, v3, hX3⟩
      rw [← HTS.out] at hX3
      clear hcell hd
      go_wp2_with fail
      go_roundw
      case rel => exact ⟨k + 1, v3, by have := HLT.out; omega, by go_num, hX3⟩
      case measure => have := HLT.out; simp [intOf]; omega
    · have hd : decide ((k : Int) < 3) = false := by simp; omega
      obtain rfl : k = 3 := by omega
      clear hlt hd hk
      have hbs3 := encs_few _ HB1.out (by simp) 3
      have hO := hX.own
      rw [show [m.kind, m.frm, m.dst].take 3 = [m.kind, m.frm, m.dst] from rfl] at hO hbs3
      have hlen1 := bytesOf_length m.page (by have := HZ.out; omega)
      have hlen2 := bytesOf_length m.data (by have := HZ.out; omega)
      generalize encs [m.kind, m.frm, m.dst] = E1 at *
      generalize hP1 : bytesOf m.page = P1 at *
      have HP1 := Lib.hid hP1
      clear hP1 hX
      have HL1 := Lib.hid hbs3
      have HL2 := Lib.hid hlen1
      have HL3 := Lib.hid hlen2
      clear hbs3 hlen1 hlen2
      have b3 : wr.cell? ⟨w.heap.size, 3, none⟩ = some (.string m.page) := hO.chg.cell (cell_of_block (i := 3) HBX.out rfl)
      go_wp2_with fail
      refine (hO.str m.page (by have := HZ.out; omega) ⟨by have := HL1.out; omega⟩).mono ?_
      rintro e w4 ⟨rfl, v4, hO4⟩
      rw [HP1.out] at hO4
      clear b3
      have b4 : w4.cell? ⟨w.heap.size, 4, none⟩ = some (.int .i64 m.epoch) := hO4.chg.cell (cell_of_block (i := 4) HBX.out rfl)
      have b5 : w4.cell? ⟨w.heap.size, 5, none⟩ = some (.int .i64 m.index) := hO4.chg.cell (cell_of_block (i := 5) HBX.out rfl)
      have b6 : w4.cell? ⟨w.heap.size, 6, none⟩ = some (.int .i64 m.count) := hO4.chg.cell (cell_of_block (i := 6) HBX.out rfl)
      have hb4 := lt_of_block hO4.wr.box
      have hX5 : WX w1 (w4.alloc (.cells #[.int .i64 m.epoch, .int .i64 m.index, .int .i64 m.count] 3)) w1.heap.size v4 (E1 ++ P1) w4.heap.size [m.epoch, m.index, m.count] 3 :=
        ⟨hO4.keep (Chg.alloc _ _ _), alloc_block w4 _, by omega, fun k hk => by have := hO4.wr.row.lt k hk; omega⟩
      go_upto_block 2 with fail
      clear b4 b5 b6 hO4 hO
      generalize hw5 : w4.alloc (.cells #[.int .i64 m.epoch, .int .i64 m.index, .int .i64 m.count] 3) = w5 at *
      clear hw5
      generalize w4.heap.size = sb at *
      go_wp2_with fail
      go_loopw [8, 38] (fun _ t wr => ∃ (k : Nat) (v : Value), k ≤ 3 ∧ t = .int .i64 k ∧ WX w1 wr w1.heap.size v (E1 ++ P1 ++ encs ([m.epoch, m.index, m.count].take k)) sb [m.epoch, m.index, m.count] 3) (fun _ t _ => 3 - (intOf t).toNat)
      case atStart => exact ⟨0, _, by omega, rfl, by simpa [encs] using hX5⟩
      case round =>
        obtain ⟨k, v, hk, rfl, hX⟩ := hrel
        by_cases hlt : k < 3
        · have hd : decide ((k : Int) < 3) = true := by simp; omega
          have hk3 : (k : Int) < 3 := by omega
          have hk0 : (0 : Int) ≤ (k : Int) := by omega
          obtain ⟨z, hz⟩ : ∃ z, [m.epoch, m.index, m.count][k]? = some z := ⟨_, List.getElem?_eq_getElem (by simpa using hlt)⟩
          have hcell : wr.cell? ⟨sb, k, none⟩ = some (.int .i64 z) := cell_of_block (i := k) hX.box (by rw [List.getElem?_toArray, List.getElem?_map, hz]; rfl)
          have hzi : I64 z := HB2.out z (List.mem_of_getElem? hz)
          have hts : encs ([m.epoch, m.index, m.count].take (k + 1)) = encs ([m.epoch, m.index, m.count].take k) ++ Kn.enc (Kn.zig z) := by
            obtain ⟨h1, h2⟩ := List.getElem?_eq_some_iff.1 hz
            rw [encs_take _ k h1, h2]
          have HTS := Lib.hid hts
          have HZI := Lib.hid hzi
          have HLT := Lib.hid hlt
          clear hz hts hzi hlt
          go_wp2_with fail
          refine (hX.int z HZI.out ⟨by have := encs_few _ HB2.out (by simp) k; have := HL1.out; have := HL2.out; simp only [List.length_append]; omega⟩).mono ?_
          rintro e w6 ⟨rfl, v6, hX6⟩
          rw [List.append_assoc (E1 ++ P1), ← HTS.out] at hX6
          clear hcell hd
          go_wp2_with fail
          go_roundw
          case rel => exact ⟨k + 1, v6, by have := HLT.out; omega, by go_num, hX6⟩
          case measure => have := HLT.out; simp [intOf]; omega
        · have hd : decide ((k : Int) < 3) = false := by simp; omega
          obtain rfl : k = 3 := by omega
          clear hlt hd hk
          have hbs4 := encs_few _ HB2.out (by simp) 3
          have hO := hX.own
          rw [show [m.epoch, m.index, m.count].take 3 = [m.epoch, m.index, m.count] from rfl] at hO hbs4
          have HL4 := Lib.hid hbs4
          generalize encs [m.epoch, m.index, m.count] = E2 at *
          clear hbs4 hX
          have b7 : wr.cell? ⟨w.heap.size, 7, none⟩ = some (.string m.data) := hO.chg.cell (cell_of_block (i := 7) HBX.out rfl)
          go_wp2_with fail
          refine (hO.str m.data (by have := HZ.out; omega) ⟨by have := HL1.out; have := HL2.out; have := HL4.out; simp only [List.length_append]; omega⟩).mono ?_
          rintro e w7 ⟨rfl, v7, hO7⟩
          rw [← hE.out] at hO7
          have c0 := cell_of_block (i := 0) hO7.wr.box rfl
          have hcv := hO7.conv0
          have hbl := lt_of_block hO7.wr.box
          clear b7
          go_wp2_with fail
          go_ret2
          exact ⟨rfl, hcw1.trans' hO7.chg⟩
end Go.Proofs.Ytkoopagjjmdodaa
