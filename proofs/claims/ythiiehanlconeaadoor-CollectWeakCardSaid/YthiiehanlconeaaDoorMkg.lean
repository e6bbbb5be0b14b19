/-
  heap.Make.
-/
import Derived.Test.YthiiehanlconeaaDoorArd
namespace Go.Proofs.YthiiehanlconeaaDoor
open Go.RowKit
set_option linter.unusedVariables false
set_option linter.unusedSimpArgs false

set_option maxHeartbeats 3200000 in
set_option maxRecDepth 100000 in
theorem make_any (w : World) (b : Nat) (hp : Hp) (F : List Nat) (k : Nat) (H : Here hpR w b 0 hp F) (hfree : hp.free = []) (hlive : hp.live = hp.slots.length) (hl : hp.slots.length < 100000) (hp12 : hp.protos.length = 12) (hk : k < 12) :
    Calls Tryd.prog 7 #[.pointer (some ⟨b, 0, none⟩), .int .i64 (k : Int)] w
      fun e w' => e = .returned (.tuple #[.int .i64 (handleM hp.base hp.stride hp.slots.length), .int .i64 0]) ∧ Added w b 0 (addedM hp ⟨true, newObj k (hp.protos.getD k 0)⟩) F w' := by
  have HL := Lib.hid (len_any w b 0 hp F H)
  obtain ⟨g, off, cap, c7, hset⟩ := protoSet H (by omega)
  obtain ⟨q1, -, -⟩ := hset k (by omega)
  have hgd : hp.protos.getD k 0 = hp.protos[k]'(by omega) := by rw [List.getD_eq_getElem?_getD, List.getElem?_eq_getElem (by omega)]; rfl
  rw [← hgd] at q1
  rw [hp12, Nat.zero_add] at c7
  generalize hp.protos.getD k 0 = pr at *
  have h0 : (0 : Int) ≤ (k : Int) := by omega
  have h1 : (k : Int) < 12 := by omega
  have h2 : ¬ ((12 : Int) ≤ (k : Int)) := by omega
  have h3 : ¬ (100000 : Int) ≤ hp.live := by omega
  have C7 := Lib.hid c7
  have Q1 := Lib.hid q1
  have HH := Lib.hid H
  have HFR := Lib.hid hfree
  have HLV := Lib.hid hlive
  have HSL := Lib.hid hl
  clear hset hgd H hfree hlive hl hp12 hk
  go_enter Tryd.func7, Tryd.ntmps7
  go_upto_region 5 with (go_at_call 17; refine HL.out.mono ?_; rintro e w2 ⟨rfl, rfl⟩)
  have hc := Chg.alloc (fun _ => False) w2 (.cells #[.int .i64 (k : Int), .int .i64 0, .slice none 0 0, .slice none 0 0, .slice none 0 0, .int .i64 0, .int .i64 0, .int .i64 0, .int .i64 0, .slice none 0 0] 61)
  have d7 := hc.cell C7.out
  have d1 := hc.cell Q1.out
  clear c7 q1
  go_upto_region 8 with fail
  have hb : (w2.alloc (.cells #[.int .i64 (k : Int), .int .i64 pr, .slice none 0 0, .slice none 0 0, .slice none 0 0, .int .i64 0, .int .i64 0, .int .i64 0, .int .i64 0, .slice none 0 0] 61)).heap[w2.heap.size]? = some (.cells #[.int .i64 (k : Int), .int .i64 pr, .slice none 0 0, .slice none 0 0, .slice none 0 0, .int .i64 0, .int .i64 0, .int .i64 0, .int .i64 0, .slice none 0 0] 61 (0, 0)) := alloc_block _ _
  have hcW : Chg (fun _ => False) w2 (w2.alloc (.cells #[.int .i64 (k : Int), .int .i64 pr, .slice none 0 0, .slice none 0 0, .slice none 0 0, .int .i64 0, .int .i64 0, .int .i64 0, .int .i64 0, .slice none 0 0] 61)) := Chg.alloc _ _ _
  have HCW := Lib.hid hcW
  clear hc d7 d1 hcW
  generalize w2.alloc (.cells #[.int .i64 (k : Int), .int .i64 pr, .slice none 0 0, .slice none 0 0, .slice none 0 0, .int .i64 0, .int .i64 0, .int .i64 0, .int .i64 0, .slice none 0 0] 61) = W3 at *
  generalize w2.heap.size = nb at *
  have m0 : W3.cell? ⟨nb, 0, none⟩ = some (.int .i64 (k : Int)) := cell_of_block hb rfl
  have m1 : W3.cell? ⟨nb, 1, none⟩ = some (.int .i64 pr) := cell_of_block hb rfl
  have m2 : W3.cell? ⟨nb, 2, none⟩ = some (.slice none 0 0) := cell_of_block hb rfl
  have m3 : W3.cell? ⟨nb, 3, none⟩ = some (.slice none 0 0) := cell_of_block hb rfl
  have m4 : W3.cell? ⟨nb, 4, none⟩ = some (.slice none 0 0) := cell_of_block hb rfl
  have m5 : W3.cell? ⟨nb, 5, none⟩ = some (.int .i64 0) := cell_of_block hb rfl
  have m6 : W3.cell? ⟨nb, 6, none⟩ = some (.int .i64 0) := cell_of_block hb rfl
  have m7 : W3.cell? ⟨nb, 7, none⟩ = some (.int .i64 0) := cell_of_block hb rfl
  have m8 : W3.cell? ⟨nb, 8, none⟩ = some (.int .i64 0) := cell_of_block hb rfl
  have m9 : W3.cell? ⟨nb, 9, none⟩ = some (.slice none 0 0) := cell_of_block hb rfl
  have HC := Lib.hid (add_any W3.drew b 0 hp F k pr (HH.out.still (HCW.out.drewR)) HFR.out ⟨by have := HSL.out; omega⟩ HLV.out)
  clear hb
  go_region_law (go_simp; go_at_call 16; refine HC.out.mono ?_; rintro e w4 ⟨rfl, hA⟩)
  all_goals (
    go_wp2_with fail
    go_ret2
    exact ⟨rfl, ⟨Post.pre (HCW.out.drewR) hA.post, fun j u hj hu => hA.rest j u hj ((HCW.out.drewR).cell hu)⟩⟩)
end Go.Proofs.YthiiehanlconeaaDoor
