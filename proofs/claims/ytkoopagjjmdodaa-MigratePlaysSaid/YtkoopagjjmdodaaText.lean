/-
  The letters of the reference: Text.
-/
import Derived.Test.YtkoopagjjmdodaaMig
import Derived.Test.YtkoopagjjmdodaaMake
import Derived.Test.YtkoopagjjmdodaaCopy
import Derived.Laws.BytesArg
import Derived.Lib.Strings
import Derived.Lib.IndexBytes
import Derived.IntWalk
namespace Go.Proofs.Ytkoopagjjmdodaa
open Go.RowKit
set_option linter.unusedVariables false
set_option linter.unusedSimpArgs false

def chB (b : UInt8) : Value := .int .u8 b.toNat
def textByte (n i : Nat) : UInt8 := UInt8.ofNat (97 + (i / 7 + n) % 26)
def textL (size n : Nat) : List UInt8 := (List.range size).map (textByte n)
def textB (size n : Nat) : ByteArray := ⟨(textL size n).toArray⟩
theorem textB_size (size n : Nat) : (textB size n).size = size := by
  show (textL size n).toArray.size = _
  simp [textL]
set_option maxRecDepth 100000 in
theorem conv_text {w : World} {g off cap : Nat} {bs : List UInt8} (h : RowAt w 5 1 (.slice (some ⟨g, off, none⟩) bs.length cap) bs.length (bs.map chB)) :
    (convert 70 9 (.slice (some ⟨g, off, none⟩) bs.length cap)).run Try.prog w = .ok (.string ⟨bs.toArray⟩) w := by
  have := run_convert_bytes_arg (P := Try.prog) w 70 5 Try.underlying70 Try.underlying5 g off bs.length cap (bs.map fun b => (b.toNat : Int)) (by simp) (by
    intro i hi
    have := h.cells rfl i (chB bs[i]) (by simp [hi])
    have hadd : (⟨g, off, none⟩ : Addr).add i = ⟨g, off + i, none⟩ := by unfold Addr.add; split <;> simp_all
    rw [hadd] at this
    rw [this]
    simp [chB, List.getD, hi]) 9 Try.underlying9
  rw [this]
  congr 3
  simp only [strOfNums, List.map_map]
  rw [show ((fun n : Int => UInt8.ofNat n.toNat) ∘ fun b : UInt8 => (b.toNat : Int)) = id from by funext b; simp, List.map_id]
theorem info_u8 : (Try.prog.info? 5).map (fun i => (i.zero, i.size, i.bytes)) = some (some (.int .u8 0), 1, 1) := by kernel_rfl
theorem made_bytes (W : World) (n : Nat) (h1 : n ≤ 6000) : (Instr.makeSlice 70 (.int .i64 n) (.int .i64 n)).run Try.prog W = .ok (.slice (some ⟨W.heap.size, 0, none⟩) n n) (W.alloc (.cells (Array.replicate n (.int .u8 0)) 5)) :=
  run_makeOne Try.underlying70 info_u8 rfl n (by omega) (by omega) (by omega) W
/-- What is written behind k steps. -/
def textCells (size n k : Nat) : List Value := (List.range k).map (fun i => chB (textByte n i)) ++ List.replicate (size - k) (.int .u8 0)
theorem textCells_set {size n k : Nat} (hk : k < size) : (textCells size n k).set k (chB (textByte n k)) = textCells size n (k + 1) := by
  unfold textCells
  rw [List.set_append_right _ _ (by simp), List.range_succ, List.map_append, List.append_assoc]
  congr 1
  rw [List.length_map, List.length_range, Nat.sub_self, show size - k = (size - (k + 1)) + 1 by omega, List.replicate_succ]
  rfl
theorem textCells_end (size n : Nat) : textCells size n size = (textL size n).map chB := by
  unfold textCells textL
  rw [Nat.sub_self, List.map_map]
  simp
theorem text_byte (n k : Nat) (hk : k ≤ 6000) (hn : n ≤ 1000000) : ((97 + (((k / 7 + n) % 26 : Nat) : Int)) : Int) = ((textByte n k).toNat : Int) := by
  have : (textByte n k).toNat = 97 + (k / 7 + n) % 26 := by
    unfold textByte
    rw [UInt8.toNat_ofNat']
    omega
  rw [this]
  omega

set_option maxHeartbeats 1600000 in
set_option maxRecDepth 100000 in
theorem text_any (size n : Nat) (w : World) (hs : size ≤ 6000) (hn : n ≤ 1000000) :
    Calls Try.prog 25 #[.int .i64 size, .int .i64 n] w fun e w' => e = .returned (.string (textB size n)) ∧ Chg (fun _ => False) w w' := by
  have hms := fun W => made_bytes W size hs
  have q0 : (0 : Int) ≤ (size : Int) := Int.natCast_nonneg _
  have hs2 : (size : Int) ≤ 6000 := by omega
  have hn2 : (n : Int) ≤ 1000000 := by omega
  have n0 : (0 : Int) ≤ (n : Int) := Int.natCast_nonneg _
  go_enter Try.func25, Try.ntmps25
  go_wp2_with fail
  go_loopw [6] (fun s6 wr => ∃ k : Nat, k ≤ size ∧ s6 = .int .i64 k ∧ RowAt wr 5 1 (.slice (some ⟨w.heap.size, 0, none⟩) size size) size (textCells size n k) ∧ Chg (fun _ => False) w wr) (fun s6 _ => size - (intOf s6).toNat)
  case atStart => exact ⟨0, Nat.zero_le _, rfl, by have := RowAt.made w 5 (.int .u8 0) size (by unfold maxLen; omega); simpa [textCells] using this, Chg.alloc _ _ _⟩
  case round =>
    obtain ⟨k, hk, rfl, hrow, hch⟩ := hrel
    have k0 : (0 : Int) ≤ (k : Int) := Int.natCast_nonneg _
    by_cases hlt : k < size
    · have h1 : (k : Int) < (size : Int) := by omega
      have hf := hrow.frozenAt k
      have hget : (textCells size n k)[k]? = some (.int .u8 0) := by
        unfold textCells
        rw [List.getElem?_append_right (by simp), List.getElem?_replicate, if_pos (by simp; omega)]
      have hc := hrow.cellAt k _ hget
      rw [Nat.zero_add] at hf hc
      have hst := hrow.store k (by unfold textCells; simp; omega) (chB (textByte n k))
      rw [textCells_set hlt, Nat.zero_add] at hst
      have hb := text_byte n k (by omega) hn
      have HST := Lib.hid hst
      have HB := Lib.hid hb
      clear hst hb hget
      go_wp2_with fail
      go_roundw
      case rel =>
        have hb := HB.out
        have hst := HST.out
        unfold chB at hst
        rw [← hb] at hst
        refine ⟨k + 1, hlt, by go_num, by simpa using hst, hch.setCellR _ _ (fun x => by simp at x)⟩
      case measure => simp [intOf]; omega
    · have h1 : ¬ (k : Int) < (size : Int) := by omega
      have he : k = size := by omega
      subst he
      rw [textCells_end] at hrow
      have hl : (textL k n).length = k := by simp [textL]
      have hcv := conv_text (w := wr) (g := w.heap.size) (off := 0) (cap := k) (bs := textL k n) (by rw [hl]; exact hrow)
      rw [hl] at hcv
      go_wp2_with fail
      go_ret
      exact ⟨rfl, hch⟩
end Go.Proofs.Ytkoopagjjmdodaa
