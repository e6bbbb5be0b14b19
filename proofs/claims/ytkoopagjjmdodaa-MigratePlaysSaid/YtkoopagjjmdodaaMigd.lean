/-
  A letter of layer 54 in pieces.
-/
import Derived.Test.YtkoopagjjmdodaaMigc
set_option profiler true
set_option profiler.threshold 3000
namespace Go.Proofs.Ytkoopagjjmdodaa
open Go.RowKit
set_option linter.unusedVariables false

/-- A letter in pieces. -/
def partsL (l : ByteArray) : List ByteArray := if 1000 < l.size then l.extract 0 1000 :: partsL (l.extract 1000 l.size) else [l]
termination_by l.size
decreasing_by simp [ByteArray.size_extract]; omega
theorem partsL_big {l : ByteArray} (h : 1000 < l.size) : partsL l = l.extract 0 1000 :: partsL (l.extract 1000 l.size) := by rw [partsL, if_pos h]
theorem partsL_small {l : ByteArray} (h : ¬ 1000 < l.size) : partsL l = [l] := by rw [partsL, if_neg h]
theorem partsL_length : ∀ (n : Nat) (l : ByteArray), l.size ≤ n → (partsL l).length ≤ l.size / 1000 + 1 := by
  intro n
  induction n using Nat.strongRecOn with
  | _ n ih =>
    intro l hl
    by_cases h : 1000 < l.size
    · rw [partsL_big h, List.length_cons]
      have hs : (l.extract 1000 l.size).size = l.size - 1000 := by rw [ByteArray.size_extract]; omega
      have := ih (l.size - 1000) (by omega) (l.extract 1000 l.size) (by omega)
      rw [hs] at this; omega
    · rw [partsL_small h]; simp

set_option maxHeartbeats 1600000 in
set_option maxRecDepth 100000 in
theorem parts_any (letter : ByteArray) (w : World) (hs : Few letter.size) :
    Calls Try.prog 38 #[.string letter] w fun e w' => ∃ g off cap, e = .returned (.slice (some ⟨g, off, none⟩) (partsL letter).length cap) ∧ RowAt w' 9 1 (.slice (some ⟨g, off, none⟩) (partsL letter).length cap) (partsL letter).length ((partsL letter).map Value.string) ∧ w.heap.size ≤ g ∧ Chg (fun _ => False) w w' := by
  have HE := Lib.hid elem_str
  go_enter Try.func38, Try.ntmps38
  go_wp2_with fail
  go_loopw [0, 3] (fun s0 s3 wr => ∃ (l : ByteArray) (ls : List ByteArray) (a : Option Addr) (n c : Nat), s0 = .string l ∧ s3 = .slice a n c ∧ RowAt wr 9 1 (.slice a n c) ls.length (ls.map Value.string) ∧ Few (ls.length * 1000 + l.size) ∧ (∀ k, (Value.slice a n c).ownBlock = some k → w.heap.size ≤ k) ∧ Hid (ls ++ partsL l = partsL letter) ∧ Chg (fun _ => False) w wr) (fun s0 _ _ => match s0 with | .string l => l.size | _ => 0)
  case atStart => exact ⟨letter, [], none, 0, 0, rfl, rfl, RowAt.nil _ _ _, ⟨by simpa using hs.lt⟩, by simp [Value.ownBlock], Lib.hid (by simp), Chg.refl _ _⟩
  case round =>
    obtain ⟨l, ls, a, n, c, rfl, rfl, hrow, hlen, hown, HP, hch⟩ := hrel
    by_cases hb : 1000 < l.size
    · have HB := Lib.hid (partsL_big hb)
      have hex : (l.extract 1000 l.size).size = l.size - 1000 := by rw [ByteArray.size_extract]; omega
      have h0' : (0 : Int) ≤ 1000 := by omega
      have h1' : (1000 : Int) ≤ (l.size : Int) := by omega
      have HX := Lib.hid hex
      have hd : decide ((1000 : Int) < (l.size : Int)) = true := by simp; omega
      have HLT := Lib.hid hb
      clear hex hb
      go_wp2_with (first
        | (at_builtin; refine list_append_elem rfl (.tmp 7) (.tmp 10) 63 rfl 9 1 16 Try.underlying63 HE.out (by decide) _ ls.length (ls.map Value.string) rfl (hrow.alloc _) [.string (l.extract 0 1000)] rfl wr.heap.size 9 (0, 0) rfl (alloc_block wr _) (by simp [Value.oneCell']) (by have := hlen.lt; unfold maxLen; omega) (by have := hlen.lt; omega) ?_; intro a2 n2 c2 w2 hrow2 hchg2 hold2))
      have HX2 := HX.out
      go_roundw
      case rel =>
        refine ⟨_, ls ++ [l.extract 0 1000], a2, n2, c2, rfl, rfl, by simpa using hrow2, ⟨by have := hlen.lt; have := HLT.out; rw [HX2]; simp; omega⟩, ?_, ?_, ?_⟩
        · intro k hk
          rcases hold2 k hk with x | x
          · exact hown k x
          · have := hch.size; simp at x; omega
        · have h1 := HP.out
          rw [HB.out] at h1
          exact Lib.hid (by simpa using h1)
        · refine ((hch.allocR _)).trans hchg2 (fun _ _ x => x) ?_
          intro i hi x
          have := hown i x
          omega
      case measure =>
        show (l.extract 1000 l.size).size < l.size
        have := HLT.out
        rw [HX2]; omega
    · have HB := Lib.hid (partsL_small hb)
      have hd : decide ((1000 : Int) < (l.size : Int)) = false := by simp; omega
      clear hb
      go_wp2_with (first
        | (at_builtin; refine list_append_elem rfl (.tmp 14) (.tmp 16) 63 rfl 9 1 16 Try.underlying63 HE.out (by decide) _ ls.length (ls.map Value.string) rfl (hrow.alloc _) [.string l] rfl wr.heap.size 9 (0, 0) rfl (alloc_block wr _) (by simp [Value.oneCell']) (by have := hlen.lt; unfold maxLen; omega) (by have := hlen.lt; omega) ?_; intro a2 n2 c2 w2 hrow2 hchg2 hold2))
      have h1 := HP.out
      rw [HB.out] at h1
      have hlp : ls.length + 1 = (partsL letter).length := by rw [← h1]; simp
      rw [hlp] at hrow2
      rw [show ls.map Value.string ++ [Value.string l] = (partsL letter).map Value.string from by rw [← h1]; simp] at hrow2
      obtain ⟨g, off, cap, hv, _, _⟩ := hrow2.addr (by omega)
      simp only [Value.slice.injEq] at hv
      obtain ⟨rfl, rfl, rfl⟩ := hv
      go_ret
      refine ⟨g, off, c2, rfl, hrow2, ?_, ?_⟩
      · rcases hold2 g rfl with x | x
        · exact hown g x
        · have := hch.size; simp at x; omega
      · refine ((hch.allocR _)).trans hchg2 (fun _ _ x => x) ?_
        intro i hi x
        have := hown i x
        omega
end Go.Proofs.Ytkoopagjjmdodaa
