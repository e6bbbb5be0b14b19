/-
  Sealing: tail, Seal and Open of the codec.
-/
import Derived.Test.YtehdimblkaefhaaFit
import Derived.Test.YtehdimblkaefhaaPlainc
import Derived.Deep.RegionWith
import Derived.Lib.Strings
import Derived.Lib.IndexBytes
import Derived.Laws.IdiomStrings
import Derived.Deep.DeepCutAuto
namespace Go.Proofs.Ytehdimblkaefhaa
set_option linter.unusedVariables false
open Go.RowKit

theorem run_convert_cells {w : World} {g off n cap : Nat} (bs : List UInt8) (hn : bs.length = n) (h : ∀ i (hi : i < bs.length), w.cell? ⟨g, off + i, none⟩ = some (byteV bs[i])) :
    (convert 23 9 (.slice (some ⟨g, off, none⟩) n cap)).run Try.prog w = .ok (.string ⟨bs.toArray⟩) w := by
  subst hn
  have := run_convert_bytes_arg (P := Try.prog) w 23 5 Try.underlying23 Try.underlying5 g off bs.length cap (bs.map fun b => (b.toNat : Int)) (by simp) (by
    intro i hi
    rw [h i hi]
    simp [byteV, List.getD, hi]) 9 Try.underlying9
  rw [this]
  congr 3
  simp only [strOfNums, List.map_map]
  rw [show ((fun n : Int => UInt8.ofNat n.toNat) ∘ fun b : UInt8 => (b.toNat : Int)) = id from by funext b; simp, List.map_id]

/-- '[]byte(s)': a new block of our own. -/
theorem run_bytes_new (w : World) (s : ByteArray) : ∃ C cur f w', (convert 9 23 (.string s)).run Try.prog w = .ok (.slice (some ⟨w.heap.size, 0, none⟩) s.size C) w' ∧
    w'.heap[w.heap.size]? = some (.cells cur 5 f) ∧ cur.size ≤ f.1 ∧ s.size ≤ cur.size ∧ (∀ i (hi : i < s.size), cur[i]? = some (byteV s[i])) ∧ Chg (fun _ => False) w w' := by
  refine ⟨_, _, _, _, run_bytes_of_string w 9 23 5 s Try.underlying9 Try.underlying23 Try.underlying5, heap_alloc_new w.drew _, Nat.le_refl _, ?_, ?_, ((Chg.refl _ w).drewR).allocR _⟩
  · have : s.data.size = s.size := rfl
    simp [bytesRow]
  · intro i hi
    exact bytesRow_at s _ i hi
theorem frozen_below {w : World} {b T : Nat} {c : Array Value} {f : Nat × Nat} {i : Nat} (h : w.heap[b]? = some (.cells c T f)) (hf : c.size ≤ f.1) (hi : i < c.size) : w.frozen? ⟨b, i, none⟩ = false := by
  simp [World.frozen?, h]; omega

set_option maxHeartbeats 400000 in
set_option maxRecDepth 100000 in
theorem tail_any (n : Nat) (hn : n < 4294967296) (w : World) :
    Calls Try.prog 34 #[.int .u32 n] w fun e w' => e = .returned (.string ⟨(Kn.tailOf n).toArray⟩) ∧ Chg (fun _ => False) w w' := by
  have hconv : (convert 23 9 (.slice (some ⟨w.heap.size, 0, none⟩) 4 4)).run Try.prog (w.alloc (.cells #[.int .u8 ((n : Int) % 256), .int .u8 ((n : Int) / 256 % 256), .int .u8 ((n : Int) / 65536 % 256), .int .u8 ((n : Int) / 16777216)] 5)) =
      .ok (.string ⟨(Kn.tailOf n).toArray⟩) (w.alloc (.cells #[.int .u8 ((n : Int) % 256), .int .u8 ((n : Int) / 256 % 256), .int .u8 ((n : Int) / 65536 % 256), .int .u8 ((n : Int) / 16777216)] 5)) := by
    refine run_convert_cells (Kn.tailOf n) rfl ?_
    intro i hi
    have hi : i < 4 := hi
    match i, hi with
    | 0, _ => exact cell_of_block (alloc_block w _) (by simp [byteV, Kn.tailOf])
    | 1, _ => exact cell_of_block (alloc_block w _) (by simp [byteV, Kn.tailOf])
    | 2, _ => exact cell_of_block (alloc_block w _) (by simp [byteV, Kn.tailOf])
    | 3, _ => exact cell_of_block (alloc_block w _) (by simp [byteV, Kn.tailOf]; omega)
  go_enter Try.func34, Try.ntmps34
  go_wp2_with fail
  go_ret
  exact ⟨rfl, Chg.alloc _ _ _⟩

set_option maxHeartbeats 400000 in
set_option maxRecDepth 100000 in
theorem seal_any (s : ByteArray) (w : World) (hs : s.size ≤ 140737488355328) :
    Calls Try.prog 20 #[.string s] w fun e w' => e = .returned (.string (s ++ ⟨(Kn.tailOf (Kn.crc s.data.toList)).toArray⟩)) ∧ Chg (fun _ => False) w w' := by
  have hsum : s.size + (⟨(Kn.tailOf (Kn.crc s.data.toList)).toArray⟩ : ByteArray).size ≤ 9223372036854775807 := by
    rw [show (⟨(Kn.tailOf (Kn.crc s.data.toList)).toArray⟩ : ByteArray).size = 4 from rfl]; omega
  have hadd := fun W => run_string_add_sum (P := Try.prog) W s _ hsum
  go_enter Try.func20, Try.ntmps20
  go_wp2_with fail
  refine (sum_any s w (by unfold maxLen; omega)).mono ?_
  rintro e w1 ⟨rfl, rfl⟩
  go_wp2_with fail
  refine (tail_any _ (Kn.crc_lt _) w).mono ?_
  rintro e w1 ⟨rfl, hc⟩
  go_wp2_with fail
  go_ret
  exact ⟨rfl, hc⟩

/-- What Open returns. -/
def openB (s : ByteArray) : ByteArray × Int :=
  if s.size < 4 then (ByteArray.empty, 3) else if Kn.openL s.data.toList then (s.extract 0 (s.size - 4), 0) else (ByteArray.empty, 12)

set_option maxHeartbeats 400000 in
set_option maxRecDepth 100000 in
theorem open_any (s : ByteArray) (w : World) (hs : s.size ≤ 140737488355328) :
    Calls Try.prog 21 #[.string s] w fun e w' => e = .returned (.tuple #[.string (openB s).1, .int .i64 (openB s).2]) ∧ Chg (fun _ => False) w w' := by
  by_cases h4 : s.size < 4
  · have hO : openB s = (ByteArray.empty, 3) := by rw [openB, if_pos h4]
    have HO := Lib.hid hO
    clear hO
    go_enter Try.func21, Try.ntmps21
    go_wp2_with fail
    go_ret2
    exact ⟨by rw [HO.out]; rfl, Chg.refl _ _⟩
  · have hO : openB s = if Kn.openL s.data.toList then (s.extract 0 (s.size - 4), 0) else (ByteArray.empty, 12) := by rw [openB, if_neg h4]
    have HO := Lib.hid hO
    clear hO
    have hsz : (s.extract 0 (s.size - 4)).size ≤ maxLen := by rw [ByteArray.size_extract]; unfold maxLen; omega
    have h0 : (0 : Int) ≤ (s.size : Int) - 4 := by omega
    have h1 : (s.size : Int) - 4 ≤ (s.size : Int) := by omega
    go_enter Try.func21, Try.ntmps21
    go_wp2_with fail
    have hwr : IntKind.i64.wrap ((s.size : Int) - 4) = (s.size : Int) - 4 := IntWalk.i64_in _ (by omega)
    have htn : ((s.size : Int) - 4).toNat = s.size - 4 := by omega
    go_region_held3 (fun _ => True) (trivial)
      (first
        | (go_at_call 18; refine (sum_any _ _ (by assumption)).mono ?_; rintro e w' ⟨rfl, rfl⟩)
        | (go_at_call 34; refine (tail_any _ (Kn.crc_lt _) _).mono ?_; rintro e w1 ⟨rfl, hch⟩))
    clear hwr htn
    have hl : s.data.toList.length = s.size := by simp
    have hdr : (s.extract (s.size - 4) s.size).toList = s.data.toList.drop (s.size - 4) := by rw [ByteArray.toList_eq, Lib.extract_to_end]
    by_cases ho : Kn.openL s.data.toList = true
    · have hO := HO.out
      rw [if_pos ho] at hO
      have HO2 := Lib.hid hO
      clear hO HO
      have hb : (Kn.tailOf (Kn.crc (List.take (s.size - 4) s.data.toList)) == (s.extract (s.size - 4) s.size).toList) = true := by
        unfold Kn.openL at ho
        rw [hl] at ho
        rw [hdr, of_decide_eq_true ho]; simp
      rw [hb]
      clear hdr hl ho hb
      go_wp2_with fail
      go_ret2
      exact ⟨by rw [HO2.out]; rfl, hch.ofDrew⟩
    · have hO := HO.out
      rw [if_neg ho] at hO
      have HO2 := Lib.hid hO
      clear hO HO
      have hb : (Kn.tailOf (Kn.crc (List.take (s.size - 4) s.data.toList)) == (s.extract (s.size - 4) s.size).toList) = false := by
        rw [hdr]
        simp only [beq_eq_false_iff_ne]
        intro he
        apply ho
        unfold Kn.openL
        rw [hl, he]; simp
      rw [hb]
      clear hdr hl ho hb
      go_wp2_with fail
      go_ret2
      exact ⟨by rw [HO2.out]; rfl, hch.ofDrew⟩
end Go.Proofs.Ytehdimblkaefhaa
