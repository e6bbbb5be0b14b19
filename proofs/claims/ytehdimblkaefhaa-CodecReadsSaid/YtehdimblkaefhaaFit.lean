/-
  The bytes of a Writer as a string; the fixed example of the laws (fit).
-/
import Derived.Test.YtehdimblkaefhaaWrite
import Derived.Test.YtehdimblkaefhaaReadb
import Derived.Laws.BytesArg
namespace Go.Proofs.Ytehdimblkaefhaa
set_option linter.unusedVariables false
open Go.RowKit

theorem run_convert_row {w : World} {v : Value} {bs : List UInt8} (h : RowAt w 5 1 v bs.length (bs.map byteV)) :
    (convert 23 9 v).run Try.prog w = .ok (.string ⟨bs.toArray⟩) w := by
  rcases h.2 with ⟨rfl, hn⟩ | ⟨g, off, cap, cur, rfl, hg, _⟩
  · have : bs = [] := List.eq_nil_of_length_eq_zero hn
    subst this
    exact run_convert_bytes_nil w 23 5 Try.underlying23 Try.underlying5 0 0 9 Try.underlying9
  · have := run_convert_bytes_arg (P := Try.prog) w 23 5 Try.underlying23 Try.underlying5 g off bs.length cap (bs.map fun b => (b.toNat : Int)) (by simp) (by
      intro i hi
      have := h.cells rfl i (byteV bs[i]) (by simp [hi])
      have hadd : (⟨g, off, none⟩ : Addr).add i = ⟨g, off + i, none⟩ := by unfold Addr.add; split <;> simp_all
      rw [hadd] at this
      rw [this]
      simp [byteV, List.getD, hi]) 9 Try.underlying9
    rw [this]
    congr 3
    simp only [strOfNums, List.map_map]
    rw [show ((fun n : Int => UInt8.ofNat n.toNat) ∘ fun b : UInt8 => (b.toNat : Int)) = id from by funext b; simp, List.map_id]

set_option maxHeartbeats 800000 in
set_option maxRecDepth 100000 in
theorem fit_any (w : World) : Calls Try.prog 11 #[] w fun e w' => e = .returned (.bool true) ∧ Chg (fun _ => False) w w' := by
  go_enter Try.func11, Try.ntmps11
  go_wp2_with fail
  refine (wInt_any _ w.heap.size _ [] (-3) (by decide) (by decide) (WrAt.new w _) (by rw [show Kn.zig (-3) = 5 from rfl, Kn.enc_small (by decide)]; decide)).mono ?_
  rintro e w1 ⟨rfl, v1, hw1, hf1⟩
  rw [show [] ++ Kn.enc (Kn.zig (-3)) = [5] from by rw [show Kn.zig (-3) = 5 from rfl, Kn.enc_small (by decide)]; rfl] at hw1
  go_wp2_with fail
  refine (wString_any w1 w.heap.size v1 [5] ⟨#[97, 98]⟩ hw1 (by rw [show (⟨#[97, 98]⟩ : ByteArray).size = 2 from rfl, Kn.enc_small (by decide)]; decide)).mono ?_
  rintro e w2 ⟨rfl, v2, hw2, hf2⟩
  rw [show [5] ++ Kn.enc (⟨#[97, 98]⟩ : ByteArray).size ++ (⟨#[97, 98]⟩ : ByteArray).data.toList = [5, 2, 97, 98] from by rw [show (⟨#[97, 98]⟩ : ByteArray).size = 2 from rfl, Kn.enc_small (by decide)]; rfl] at hw2
  have hch : Chg (fun _ => False) w w2 := WrFr.fresh (Chg.alloc _ w _) (hf1.trans hf2) (Nat.le_refl _) (by simp [Value.ownBlock])
  have hrow := hw2.row
  have hbox := cell_of_block (i := 0) hw2.box rfl
  have hne := hw2.ne
  have hbl := lt_of_block hw2.box
  clear hf1 hf2 hw1
  rcases hrow.2 with ⟨_, hn⟩ | ⟨g, off, cap, cur, rfl, hg, _⟩
  · cases hn
  have hconv : (convert 23 9 (.slice (some ⟨g, off, none⟩) 4 cap)).run Try.prog w2 = .ok (.string ⟨#[5, 2, 97, 98]⟩) w2 := run_convert_row hrow
  have hcell := hrow.cellAt 0 (.int .u8 5) rfl
  rw [Nat.add_zero] at hcell
  have hgl := lt_of_block hg
  clear hrow hw2 hg
  go_wp2_with fail
  refine (rInt_any _ w2.heap.size ⟨#[5, 2, 97, 98]⟩ 0 0 (alloc_block w2 _) (by decide)).mono ?_
  rintro e w3 ⟨rfl, hr3, hch3⟩
  rw [show Kn.unzig (rU ⟨#[5, 2, 97, 98]⟩ 0 0).1 = -3 from by decide +kernel]
  rw [show (rU ⟨#[5, 2, 97, 98]⟩ 0 0).2.1 = 1 from by decide +kernel, show (rU ⟨#[5, 2, 97, 98]⟩ 0 0).2.2 = 0 from by decide +kernel] at hr3
  go_wp2_with fail
  refine (rString_any w3 w2.heap.size ⟨#[5, 2, 97, 98]⟩ 1 0 hr3 (by decide)).mono ?_
  rintro e w4 ⟨rfl, hr4, hch4⟩
  rw [show (rS ⟨#[5, 2, 97, 98]⟩ 1 0).1 = ⟨#[97, 98]⟩ from by decide +kernel]
  rw [show (rS ⟨#[5, 2, 97, 98]⟩ 1 0).2.1 = 4 from by decide +kernel, show (rS ⟨#[5, 2, 97, 98]⟩ 1 0).2.2 = 0 from by decide +kernel] at hr4
  go_wp2_with fail
  refine (rDone_any w4 w2.heap.size ⟨#[5, 2, 97, 98]⟩ 4 0 hr4 (by decide)).mono ?_
  rintro e w5 ⟨rfl, hch5⟩
  rw [show (if (0 : Int) ≠ 0 then (0 : Int) else if (4 : Int) ≠ ((⟨#[5, 2, 97, 98]⟩ : ByteArray).size : Int) then 3 else 0) = 0 from by decide +kernel]
  go_wp2_with fail
  refine (sum_any ⟨#[49, 50, 51, 52, 53, 54, 55, 56, 57]⟩ w5 (by decide)).mono ?_
  rintro e w6 ⟨rfl, rfl⟩
  rw [show ((Kn.crc (⟨#[49, 50, 51, 52, 53, 54, 55, 56, 57]⟩ : ByteArray).data.toList : Nat) : Int) = 3421780262 from by decide +kernel]
  go_wp2_with fail
  go_ret
  refine ⟨rfl, ?_⟩
  refine (hch.trans ((Chg.alloc (fun _ => False) w2 _).trans ((hch3.trans' hch4).trans (hch5.mono (S' := fun _ => False) (fun _ _ x => x)) (S'' := (· = w2.heap.size)) (fun _ _ x => x) (fun _ _ x => x.elim)) (S'' := (· = w2.heap.size)) (fun _ _ x => x.elim) (fun _ _ x => x)) (fun _ _ x => x) ?_)
  intro i hi x
  have := hch.size
  omega
end Go.Proofs.Ytehdimblkaefhaa
