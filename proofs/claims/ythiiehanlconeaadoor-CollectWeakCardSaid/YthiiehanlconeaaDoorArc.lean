/-
  Arenas: Add (where no slot is free), New.
-/
import Derived.Test.YthiiehanlconeaaDoorArb
import Derived.Laws.Rows
namespace Go.Proofs.YthiiehanlconeaaDoor
open Go.RowKit
set_option linter.unusedVariables false
set_option linter.unusedSimpArgs false

theorem elem_slot : Elem Tryd.prog 83 11 152 := elem_of (by kernel_rfl)
/-- A new object: nothing but its kind and its prototype. -/
def newObj (kind proto : Int) : Obj := ⟨kind, proto, [], [], [], 0, 0, 0, 0, []⟩
theorem newObj_own (w : World) (kind proto : Int) : objR.own w [.int .i64 kind, .int .i64 proto, .slice none 0 0, .slice none 0 0, .slice none 0 0, .int .i64 0, .int .i64 0, .int .i64 0, .int .i64 0, .slice none 0 0] (newObj kind proto) [] := by
  have h : ∀ {α : Type} (A : Rep α) e, (A.row e).own w [.slice none 0 0] [] [] := fun A e => ⟨_, [], [], rfl, RowAt.nil _ _ _, .nil, rfl⟩
  exact ⟨_, _, _, _, [], [], [], [], rfl, h _ _, h _ _, h _ _, h _ _, rfl⟩
theorem newSlt_own (w : World) (kind proto : Int) : sltR.own w [.bool true, .int .i64 kind, .int .i64 proto, .slice none 0 0, .slice none 0 0, .slice none 0 0, .int .i64 0, .int .i64 0, .int .i64 0, .int .i64 0, .slice none 0 0] ⟨true, newObj kind proto⟩ [] :=
  ⟨_, rfl, newObj_own w kind proto⟩
def addedM (hp : Hp) (s : Slt) : Hp := { hp with slots := hp.slots ++ [s], live := hp.live + 1 }
/-- What Add has done to an arena. -/
structure Added (w : World) (b o : Nat) (hp' : Hp) (F : List Nat) (w' : World) : Prop where
  post : Post hpR w b o hp' F w'
  rest : ∀ j u, 5 ≤ j → w.cell? ⟨b, o + j, none⟩ = some u → w'.cell? ⟨b, o + j, none⟩ = some u

set_option maxHeartbeats 3200000 in
set_option maxRecDepth 100000 in
theorem add_any (w : World) (b o : Nat) (hp : Hp) (F : List Nat) (kind proto : Int) (H : Here hpR w b o hp F) (hfree : hp.free = []) (hl : Few hp.slots.length) (hlive : hp.live = hp.slots.length) :
    Calls Tryd.prog 16 #[.pointer (some ⟨b, o, none⟩), .agg #[.int .i64 kind, .int .i64 proto, .slice none 0 0, .slice none 0 0, .slice none 0 0, .int .i64 0, .int .i64 0, .int .i64 0, .int .i64 0, .slice none 0 0]] w
      fun e w' => e = .returned (.int .i64 (handleM hp.base hp.stride hp.slots.length)) ∧ Added w b o (addedM hp ⟨true, newObj kind proto⟩) F w' := by
  obtain ⟨c0, c1, -, ⟨af, capf, c3⟩, c4, -⟩ := hpCells H
  rw [hfree] at c3
  simp only [List.length_nil] at c3
  rw [hlive] at c4
  obtain ⟨p, cap, xs, Fs, Fr, c2, hopen, f2, hstay, hback⟩ := H.fieldAppending hpR_slots (by show 0 < 8; decide)
  obtain ⟨cb, Tb, hbox⟩ := H.boxed
  have f0 := H.frozen
  have HF := Lib.hid H
  have hbO : ∀ k, (Value.slice p hp.slots.length cap).ownBlock = some k → k ≠ b := by
    rintro k hk rfl
    have := (hstay w (w.setCell ⟨k, o + 2, none⟩ (.bool true)) (.refl _ _) ((Chg.setCell w _ _).mono (fun i _ hi => by subst hi; exact hk))).1
    rw [World.cell?_setCell_same _ _ _ c2] at this
    cases this
  have g1 := alloc_block w (.cells #[.int .i64 kind, .int .i64 proto, .slice none 0 0, .slice none 0 0, .slice none 0 0, .int .i64 0, .int .i64 0, .int .i64 0, .int .i64 0, .slice none 0 0] 61)
  have hch1 := Chg.alloc (fun _ => False) w (.cells #[.int .i64 kind, .int .i64 proto, .slice none 0 0, .slice none 0 0, .slice none 0 0, .int .i64 0, .int .i64 0, .int .i64 0, .int .i64 0, .slice none 0 0] 61)
  have d0 := hch1.cell c0
  have d1 := hch1.cell c1
  have d2 := hch1.cell c2
  have d3 := hch1.cell c3
  have d4 := hch1.cell c4
  go_enter Tryd.func16, Tryd.ntmps16
  go_upto_region 7 with fail
  have HFW := Lib.hid hl
  have HC0 := Lib.hid c0
  have HC1 := Lib.hid c1
  have HC4 := Lib.hid c4
  have HC2 := Lib.hid c2
  have HLV := Lib.hid hlive
  have HBX := Lib.hid hbox
  have HNB := Lib.hid H.nb
  clear c0 c1 c2 c3 c4 d0 d1 d3 d4 hl hlive hfree hbox
  have hs1 : (w.alloc (.cells #[.int .i64 kind, .int .i64 proto, .slice none 0 0, .slice none 0 0, .slice none 0 0, .int .i64 0, .int .i64 0, .int .i64 0, .int .i64 0, .slice none 0 0] 61)).heap.size = w.heap.size + 1 := by simp
  generalize w.alloc (.cells #[.int .i64 kind, .int .i64 proto, .slice none 0 0, .slice none 0 0, .slice none 0 0, .int .i64 0, .int .i64 0, .int .i64 0, .int .i64 0, .slice none 0 0] 61) = w1 at *
  clear hs1
  have m0 : w1.cell? ⟨w.heap.size, 0, none⟩ = some (.int .i64 kind) := cell_of_block (i := 0) g1 rfl
  have m1 : w1.cell? ⟨w.heap.size, 1, none⟩ = some (.int .i64 proto) := cell_of_block (i := 1) g1 rfl
  have m2 : w1.cell? ⟨w.heap.size, 2, none⟩ = some (.slice none 0 0) := cell_of_block (i := 2) g1 rfl
  have m3 : w1.cell? ⟨w.heap.size, 3, none⟩ = some (.slice none 0 0) := cell_of_block (i := 3) g1 rfl
  have m4 : w1.cell? ⟨w.heap.size, 4, none⟩ = some (.slice none 0 0) := cell_of_block (i := 4) g1 rfl
  have m5 : w1.cell? ⟨w.heap.size, 5, none⟩ = some (.int .i64 0) := cell_of_block (i := 5) g1 rfl
  have m6 : w1.cell? ⟨w.heap.size, 6, none⟩ = some (.int .i64 0) := cell_of_block (i := 6) g1 rfl
  have m7 : w1.cell? ⟨w.heap.size, 7, none⟩ = some (.int .i64 0) := cell_of_block (i := 7) g1 rfl
  have m8 : w1.cell? ⟨w.heap.size, 8, none⟩ = some (.int .i64 0) := cell_of_block (i := 8) g1 rfl
  have m9 : w1.cell? ⟨w.heap.size, 9, none⟩ = some (.slice none 0 0) := cell_of_block (i := 9) g1 rfl
  have hrowA := ((hopen.row.chg hch1 (fun _ _ x => x)).alloc (.cells #[.bool true, .int .i64 kind, .int .i64 proto, .slice none 0 0, .slice none 0 0, .slice none 0 0, .int .i64 0, .int .i64 0, .int .i64 0, .int .i64 0, .slice none 0 0] 83)).drew
  have hchA := ((hch1.allocR (.cells #[.bool true, .int .i64 kind, .int .i64 proto, .slice none 0 0, .slice none 0 0, .slice none 0 0, .int .i64 0, .int .i64 0, .int .i64 0, .int .i64 0, .slice none 0 0] 83))).drewR
  have hgA : (w1.alloc (.cells #[.bool true, .int .i64 kind, .int .i64 proto, .slice none 0 0, .slice none 0 0, .slice none 0 0, .int .i64 0, .int .i64 0, .int .i64 0, .int .i64 0, .slice none 0 0] 83)).drew.heap[w1.heap.size]? = some (.cells [.bool true, .int .i64 kind, .int .i64 proto, .slice none 0 0, .slice none 0 0, .slice none 0 0, .int .i64 0, .int .i64 0, .int .i64 0, .int .i64 0, .slice none 0 0].toArray 83 (0, 0)) := alloc_block w1 _
  have HGA := Lib.hid hgA
  have HE := Lib.hid elem_slot
  have HCA := Lib.hid hchA
  have c2A := hchA.cell HC2.out
  have HST := Lib.hid hstay
  have HBK := Lib.hid hback
  have hbG : ∀ w3, Chg (fun j => (Value.slice p hp.slots.length cap).ownBlock = some j) (w1.alloc (.cells #[.bool true, .int .i64 kind, .int .i64 proto, .slice none 0 0, .slice none 0 0, .slice none 0 0, .int .i64 0, .int .i64 0, .int .i64 0, .int .i64 0, .slice none 0 0] 83)).drew w3 → ∀ j u, w.cell? ⟨b, j, none⟩ = some u → w3.cell? ⟨b, j, none⟩ = some u := fun w3 h3 j u hu => h3.cellS (hchA.cell hu) (fun hk => hbO b (by simpa using hk) rfl)
  have HBG := Lib.hid hbG
  clear hgA hchA hbG hopen g1 hch1 hstay hback
  go_region_law
    ((refine step_append_elem (by rfl) _ _ _ (by rfl) 83 11 152 Tryd.underlying26 HE.out (by decide) _ hp.slots.length xs.flatten (by rfl) hrowA [.bool true, .int .i64 kind, .int .i64 proto, .slice none 0 0, .slice none 0 0, .slice none 0 0, .int .i64 0, .int .i64 0, .int .i64 0, .int .i64 0, .slice none 0 0] rfl w1.heap.size 83 (0, 0) (by rfl) HGA.out (by simp [Value.oneCell']) (by have := HFW.out.lt; unfold maxLen; omega) (by have := HFW.out.lt; omega) ?_; intro a2 n2 cp2 w2 hrow2 hchg2 hold2; have cc2 := (HST.out _ _ HCA.out hchg2).1; have f2 := (HST.out _ _ HCA.out hchg2).2))
  all_goals (
    have P3 := HBK.out _ _ [.bool true, .int .i64 kind, .int .i64 proto, .slice none 0 0, .slice none 0 0, .slice none 0 0, .int .i64 0, .int .i64 0, .int .i64 0, .int .i64 0, .slice none 0 0] ⟨true, newObj kind proto⟩ [] _ HCA.out (newSlt_own _ kind proto) (by simp) (by simp) hrow2 hchg2 hold2
    have c3 : ∀ j u, j ≠ o + 2 → w.cell? ⟨b, j, none⟩ = some u → (w2.setCell ⟨b, o + 2, none⟩ (.slice a2 n2 cp2)).cell? ⟨b, j, none⟩ = some u := fun j u hj hu => by
      rw [World.cell?_setCell_other _ _ _ _ (by intro e; cases e; exact hj rfl)]
      exact HBG.out _ hchg2 j u hu
    have e0 := c3 o _ (by omega) HC0.out
    have e1 := c3 (o + 1) _ (by omega) HC1.out
    have e4 := c3 (o + 4) _ (by omega) HC4.out
    obtain ⟨F3, H3, S3⟩ := P3
    have f4 := H3.frozen (o + 4)
    have HH3 := Lib.hid H3
    have HSS3 := Lib.hid S3
    have HC3 := Lib.hid c3
    clear H3 S3 c3 cc2 f2 m0 m1 m2 m3 m4 m5 m6 m7 m8 m9 HC0 HC1 HC4 hrow2 hchg2 hold2 c2A hrowA HGA HE HCA HST HBK HBG
    generalize w2.setCell ⟨b, o + 2, none⟩ (.slice a2 n2 cp2) = w3 at *
    obtain ⟨F4, H4, S4⟩ := HH3.out.setField hpR_live (y := (hp.slots.length : Int) + 1) (v := .int .i64 ((hp.slots.length : Int) + 1)) rfl
    have w1' : IntKind.i64.wrap ((hp.slots.length : Int) + 1) = (hp.slots.length : Int) + 1 := IntWalk.i64_in _ (by have := HFW.out.lt; omega)
    have c4 : ∀ j u, j ≠ o + 4 → w3.cell? ⟨b, j, none⟩ = some u → (w3.setCell ⟨b, o + 4, none⟩ (.int .i64 ((hp.slots.length : Int) + 1))).cell? ⟨b, j, none⟩ = some u := fun j u hj hu => by
      rw [World.cell?_setCell_other _ _ _ _ (by intro e; cases e; exact hj rfl)]
      exact hu
    have g0 := c4 o _ (by omega) e0
    have g1 := c4 (o + 1) _ (by omega) e1
    have HH4 := Lib.hid H4
    have HSS4 := Lib.hid S4
    have HC4' := Lib.hid c4
    clear H4 S4 c4
    go_upto_region 9 with fail
    clear e0 e1 e4 f4 w1'
    generalize w3.setCell ⟨b, o + 4, none⟩ (.int .i64 ((hp.slots.length : Int) + 1)) = w4 at *
    have HX := Lib.hid (handle_any hp.base hp.stride hp.slots.length w4 (by have := HFW.out.lt; omega))
    go_wp2_with fail
    refine HX.out.mono ?_
    rintro e w5 ⟨rfl, hc5⟩
    have HC5 := Lib.hid hc5
    clear hc5 HX g0 g1
    go_wp2_with fail
    go_ret
    refine ⟨rfl, ⟨?_, ?_⟩⟩
    · have : addedM hp ⟨true, newObj kind proto⟩ = { ({ hp with slots := hp.slots ++ [⟨true, newObj kind proto⟩] } : Hp) with live := (hp.slots.length : Int) + 1 } := by unfold addedM; rw [HLV.out]
      rw [this]
      exact ⟨F4, HH4.out.still HC5.out, (HSS3.out.trans HSS4.out).trans (Step.ofChg HC5.out)⟩
    · intro j u hj hu
      exact HC5.out.cell (HC4'.out _ _ (by omega) (HC3.out _ _ (by omega) hu)))
end Go.Proofs.YthiiehanlconeaaDoor
