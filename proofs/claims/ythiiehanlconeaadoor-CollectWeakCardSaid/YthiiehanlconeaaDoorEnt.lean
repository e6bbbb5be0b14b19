/-
  heap.table, heap.entry over entries whose keys and values are references.
-/
import Derived.Test.YthiiehanlconeaaDoorNrm
import Derived.Test.YthiiehanlconeaaDoorSwp
import Derived.Test.YthiiehanlconeaaDoorJoi
namespace Go.Proofs.YthiiehanlconeaaDoor
open Go.RowKit
set_option linter.unusedVariables false
set_option linter.unusedSimpArgs false

theorem pair_lenE {α : Type} (f g : α → Val) : ∀ l : List α, (l.flatMap fun q => [f q, g q]).length = 2 * l.length
  | [] => rfl
  | a :: l => by rw [List.flatMap_cons, List.length_append, pair_lenE f g l]; simp; omega
theorem pair_getE {α : Type} (f g : α → Val) : ∀ (l : List α) (k : Nat) (q : α), l[k]? = some q → (l.flatMap fun q => [f q, g q])[2 * k]? = some (f q) ∧ (l.flatMap fun q => [f q, g q])[2 * k + 1]? = some (g q)
  | [], k, q, h => by simp at h
  | a :: l, 0, q, h => by
    rw [List.getElem?_cons_zero] at h
    cases h
    exact ⟨rfl, rfl⟩
  | a :: l, k + 1, q, h => by
    rw [List.getElem?_cons_succ] at h
    obtain ⟨h1, h2⟩ := pair_getE f g l k q h
    rw [List.flatMap_cons]
    have e1 : 2 * (k + 1) = 2 * k + 1 + 1 := by omega
    exact ⟨by rw [e1]; exact h1, by rw [e1]; exact h2⟩
set_option maxHeartbeats 3200000 in
set_option maxRecDepth 100000 in
theorem table_any (w : World) (b : Nat) (hp : Hp) (F : List Nat) (h : Int) (i g off cap : Nat) (H : Here hpR w b 0 hp F) (c2 : w.cell? ⟨b, 2, none⟩ = some (.slice (some ⟨g, off, none⟩) hp.slots.length cap)) (hi : -9223372036854775808 ≤ h ∧ h ≤ 9223372036854775807) (hs : slotOf hp h = some i)
    (ck : w.cell? ⟨g, off + i * 11 + 1, none⟩ = some (.int .i64 5)) :
    Calls Tryd.prog 18 #[.pointer (some ⟨b, 0, none⟩), .int .i64 h] w fun e w' => e = .returned (.pointer (some ⟨g, off + i * 11 + 1, none⟩)) ∧ Chg (fun _ => False) w w' := by
  have hat := hat_any w b 0 hp F h _ H (by rw [Nat.zero_add]; exact c2) hi
  rw [hs, show objPtr (.slice (some ⟨g, off, none⟩) hp.slots.length cap) (some i) = some ⟨g, off + i * 11 + 1, none⟩ from rfl] at hat
  have HAT := Lib.hid hat
  have CK := Lib.hid ck
  clear hat ck H c2 hi hs
  go_enter Tryd.func18, Tryd.ntmps18
  go_upto_region 2 with (go_at_call 24; refine HAT.out.mono ?_; rintro e wa ⟨rfl, hca⟩)
  have ck := hca.cell CK.out
  have z1 : ((5 : Int) != 4) = true := rfl
  have z2 : ((5 : Int) != 5) = false := rfl
  go_wp2_with fail
  go_ret
  exact ⟨rfl, hca⟩
set_option maxHeartbeats 3200000 in
set_option maxRecDepth 100000 in
theorem entry_any (w : World) (g o m cd : Nat) (ad : Option Addr) (P : List (Int × Int)) (a : Int) (c4 : w.cell? ⟨g, o + 4, none⟩ = some (.slice ad m cd)) (hm : m = 2 * P.length) (hl : P.length ≤ 1000)
    (hr : RowAt w 38 4 (.slice ad m cd) m ((P.flatMap fun q => [refV q.1, refV q.2]).flatMap Val.cells)) :
    Calls Tryd.prog 19 #[.pointer (some ⟨g, o, none⟩), .agg #[.int .i64 5, .int .i64 0, .string ⟨#[]⟩, .int .i64 a]] w fun e w' => ∃ r : Int, e = .returned (.int .i64 r) ∧ Chg (fun _ => False) w w' ∧ ((r = -1 ∧ ∀ p ∈ P, p.1 ≠ a) ∨ ∃ q, ∃ h : q < P.length, r = ((2 * q : Nat) : Int) ∧ P[q].1 = a) := by
  have hcb := Chg.alloc (fun _ => False) w (.cells #[.int .i64 5, .int .i64 0, .string ⟨#[]⟩, .int .i64 a] 38)
  have kb := alloc_block w (.cells #[.int .i64 5, .int .i64 0, .string ⟨#[]⟩, .int .i64 a] 38)
  have k0 := cell_of_block (i := 0) kb rfl
  have k1 := cell_of_block (i := 1) kb rfl
  have k2 := cell_of_block (i := 2) kb rfl
  have k3 := cell_of_block (i := 3) kb rfl
  simp only [List.getElem_toArray, List.getElem_cons_zero, List.getElem_cons_succ] at k0 k1 k2 k3
  have HKB := Lib.hid (And.intro k0 (And.intro k1 (And.intro k2 k3)))
  have HCB := Lib.hid hcb
  have HC4 := Lib.hid (hcb.cell c4)
  have HRW := Lib.hid (hr.alloc (.cells #[.int .i64 5, .int .i64 0, .string ⟨#[]⟩, .int .i64 a] 38))
  have HM := Lib.hid hm
  have HL := Lib.hid hl
  clear kb k0 k1 k2 k3 hcb c4 hr hm hl
  go_enter Tryd.func19, Tryd.ntmps19
  go_upto_region 1 with fail
  generalize w.alloc (.cells #[.int .i64 5, .int .i64 0, .string ⟨#[]⟩, .int .i64 a] 38) = w1 at *
  generalize w.heap.size = bk at *
  go_wp2_with fail
  go_loopw [5] (fun u5 wr => ∃ (q j : Nat), j = 2 * q ∧ q ≤ P.length ∧ u5 = .int .i64 j ∧ Hid (Chg (fun _ => False) w1 wr) ∧ Hid (∀ i (h : i < P.length), i < q → P[i].1 ≠ a)) (fun u5 _ => m - (intOf u5).toNat)
  case atStart => exact ⟨0, 0, rfl, by omega, rfl, Lib.hid (Chg.refl _ _), Lib.hid (fun i h h0 => by omega)⟩
  case round =>
    obtain ⟨q, j, hj, hq, rfl, HCR, HNO⟩ := hrel
    have wj1 : IntKind.i64.wrap ((j : Int) + 1) = ((j + 1 : Nat) : Int) := IntWalk.i64_in _ (by have := HL.out; omega)
    have wj2 : IntKind.i64.wrap ((j : Int) + 2) = ((j + 2 : Nat) : Int) := IntWalk.i64_in _ (by have := HL.out; omega)
    have c4 := HCR.out.cell HC4.out
    by_cases hlt : q < P.length
    · have hr := HRW.out.chg HCR.out (fun _ _ x => x)
      have hjm : j + 1 < m := by have := HM.out; omega
      obtain ⟨gd, od, cd', hv, -, -⟩ := hr.addr (by omega)
      cases hv
      have hpl := pair_lenE (fun q : Int × Int => refV q.1) (fun q => refV q.2) P
      have hpg := pair_getE (fun q : Int × Int => refV q.1) (fun q => refV q.2) P q P[q] (List.getElem?_eq_getElem hlt)
      generalize hDL : (P.flatMap fun q => [refV q.1, refV q.2]) = dl at *
      clear hDL
      have hjl : j < dl.length := by have := HM.out; omega
      have hg0 : dl[j] = refV P[q].1 := by
        have h := hpg.1
        rw [← hj, List.getElem?_eq_getElem hjl] at h
        exact Option.some.inj h
      have hcell : ∀ t u, dl[j].cells[t]? = some u → t < 4 → wr.cell? ⟨gd, od + j * 4 + t, none⟩ = some u := fun t u hu ht => by
        rw [Nat.add_assoc]
        exact hr.cellAt (j * 4 + t) u (by rw [flat_get _ 4 Val.len dl j t hjl ht]; exact hu)
      rw [hg0] at hcell
      generalize hp1 : P[q].1 = p at *
      have a0 := hcell 0 _ rfl (by omega)
      have a1 := hcell 1 _ rfl (by omega)
      have a2 := hcell 2 _ rfl (by omega)
      have a3 := hcell 3 _ rfl (by omega)
      rw [Nat.add_zero] at a0
      have HS0 : Hid (wr.cell? ⟨g, o + 4, none⟩ = some (.slice (some ⟨gd, od, none⟩) m cd) ∧ wr.cell? ⟨gd, od + j * 4, none⟩ = some (.int .i64 5) ∧ wr.cell? ⟨gd, od + j * 4 + 1, none⟩ = some (.int .i64 0) ∧ wr.cell? ⟨gd, od + j * 4 + 2, none⟩ = some (.string ⟨#[]⟩) ∧ wr.cell? ⟨gd, od + j * 4 + 3, none⟩ = some (.int .i64 p) ∧ wr.cell? ⟨bk, 0, none⟩ = some (.int .i64 5) ∧ wr.cell? ⟨bk, 1, none⟩ = some (.int .i64 0) ∧ wr.cell? ⟨bk, 2, none⟩ = some (.string ⟨#[]⟩) ∧ wr.cell? ⟨bk, 3, none⟩ = some (.int .i64 a)) := Lib.hid ⟨c4, a0, a1, a2, a3, HCR.out.cell HKB.out.1, HCR.out.cell HKB.out.2.1, HCR.out.cell HKB.out.2.2.1, HCR.out.cell HKB.out.2.2.2⟩
      have HP1 := Lib.hid hp1
      have HLT := Lib.hid hlt
      have HJ := Lib.hid hj
      have HJM := Lib.hid hjm
      have HQ := Lib.hid (show q + 1 ≤ P.length from hlt)
      have hj0 : (0 : Int) ≤ (j : Int) := by omega
      have hj1 : (j : Int) < (m : Int) := by omega
      have hj2 : (((j + 1 : Nat) : Int)) < (m : Int) := by omega
      have HSM := Lib.hid (fun W => same_ref p a W)
      clear a0 a1 a2 a3 hcell hg0 hpg hpl hp1 hr hq hj hjm hjl
      go_upto_region 4 with fail
      clear c4
      refine wp_region_held_split 8 (fun w' => w'.cell? ⟨g, o + 4, none⟩ = some (.slice (some ⟨gd, od, none⟩) m cd) ∧ w'.cell? ⟨gd, od + j * 4, none⟩ = some (.int .i64 5) ∧ w'.cell? ⟨gd, od + j * 4 + 1, none⟩ = some (.int .i64 0) ∧ w'.cell? ⟨gd, od + j * 4 + 2, none⟩ = some (.string ⟨#[]⟩) ∧ w'.cell? ⟨gd, od + j * 4 + 3, none⟩ = some (.int .i64 p) ∧ w'.cell? ⟨bk, 0, none⟩ = some (.int .i64 5) ∧ w'.cell? ⟨bk, 1, none⟩ = some (.int .i64 0) ∧ w'.cell? ⟨bk, 2, none⟩ = some (.string ⟨#[]⟩) ∧ w'.cell? ⟨bk, 3, none⟩ = some (.int .i64 a)) (by kernel_rfl) (by kernel_rfl) ?_ (fun hHeld => ?_)
      · (first | exact HS0.out)
      simp only [List.take_succ_cons, List.take_zero]
      have HWD : Hid (Chg (fun _ => False) wr wr.drew) := Lib.hid (Chg.refl _ wr).drewR
      generalize wr.drew = wD at *
      refine wpAnyH_take (i := 0) (v := ?_) rfl (by kernel_rfl) (by kernel_rfl) (by kernel_rfl) (fun _ _ _ h => h) (Or.inl ⟨by rfl, ?_⟩) (by assumption) ?_
      rotate_left
      · (intro wq hSw; (try dsimp only at hSw); go_simp; (try with_reducible rfl))
      simp only [Act.put, List.getElem_toArray, List.getElem_cons_zero, List.getElem_cons_succ, List.setIfInBounds_toArray, List.set_cons_zero, List.set_cons_succ]
      refine wpAnyH_take (i := 1) (v := ?_) rfl (by kernel_rfl) (by kernel_rfl) (by kernel_rfl) (fun _ _ _ h => h) (Or.inl ⟨by rfl, ?_⟩) (by assumption) ?_
      rotate_left
      · (intro wq hSw; (try dsimp only at hSw); go_simp; (try with_reducible rfl))
      simp only [Act.put, List.getElem_toArray, List.getElem_cons_zero, List.getElem_cons_succ, List.setIfInBounds_toArray, List.set_cons_zero, List.set_cons_succ]
      refine wpAnyH_take (i := 2) (v := ?_) rfl (by kernel_rfl) (by kernel_rfl) (by kernel_rfl) (fun _ _ _ h => h) (Or.inl ⟨by rfl, ?_⟩) (by assumption) ?_
      rotate_left
      · (intro wq hSw; (try dsimp only at hSw); go_simp; (try with_reducible rfl))
      simp only [Act.put, List.getElem_toArray, List.getElem_cons_zero, List.getElem_cons_succ, List.setIfInBounds_toArray, List.set_cons_zero, List.set_cons_succ]
      refine wpAnyH_take (i := 3) (v := ?_) rfl (by kernel_rfl) (by kernel_rfl) (by kernel_rfl) (fun _ _ _ h => h) (Or.inl ⟨by rfl, ?_⟩) (by assumption) ?_
      rotate_left
      · (intro wq hSw; (try dsimp only at hSw); go_simp; (try with_reducible rfl))
      simp only [Act.put, List.getElem_toArray, List.getElem_cons_zero, List.getElem_cons_succ, List.setIfInBounds_toArray, List.set_cons_zero, List.set_cons_succ]
      refine wpAnyH_take (i := 4) (v := ?_) rfl (by kernel_rfl) (by kernel_rfl) (by kernel_rfl) (fun _ _ _ h => h) (Or.inl ⟨by rfl, ?_⟩) (by assumption) ?_
      rotate_left
      · (intro wq hSw; (try dsimp only at hSw); go_simp; (try with_reducible rfl))
      simp only [Act.put, List.getElem_toArray, List.getElem_cons_zero, List.getElem_cons_succ, List.setIfInBounds_toArray, List.set_cons_zero, List.set_cons_succ]
      refine wpAnyH_take (i := 5) (v := ?_) rfl (by kernel_rfl) (by kernel_rfl) (by kernel_rfl) (fun _ _ _ h => h) (Or.inl ⟨by rfl, ?_⟩) (by assumption) ?_
      rotate_left
      · (intro wq hSw; (try dsimp only at hSw); go_simp; (try with_reducible rfl))
      simp only [Act.put, List.getElem_toArray, List.getElem_cons_zero, List.getElem_cons_succ, List.setIfInBounds_toArray, List.set_cons_zero, List.set_cons_succ]
      refine wpAnyH_take (i := 6) (v := ?_) rfl (by kernel_rfl) (by kernel_rfl) (by kernel_rfl) (fun _ _ _ h => h) (Or.inl ⟨by rfl, ?_⟩) (by assumption) ?_
      rotate_left
      · (intro wq hSw; (try dsimp only at hSw); go_simp; (try with_reducible rfl))
      simp only [Act.put, List.getElem_toArray, List.getElem_cons_zero, List.getElem_cons_succ, List.setIfInBounds_toArray, List.set_cons_zero, List.set_cons_succ]
      refine wpAnyH_take (i := 7) (v := ?_) rfl (by kernel_rfl) (by kernel_rfl) (by kernel_rfl) (fun _ _ _ h => h) (Or.inl ⟨by rfl, ?_⟩) (by assumption) ?_
      rotate_left
      · (intro wq hSw; (try dsimp only at hSw); go_simp; (try with_reducible rfl))
      simp only [Act.put, List.getElem_toArray, List.getElem_cons_zero, List.getElem_cons_succ, List.setIfInBounds_toArray, List.set_cons_zero, List.set_cons_succ]
      refine wpAnyH_done (by kernel_rfl) ?_ _
      change wpList _ _ _ _ _ _
      simp only [List.drop_succ_cons, List.drop_zero]
      by_cases hpa : p = a
      · have hsm := HSM.out
        simp only [hpa, decide_true] at hsm
        have HSM2 := Lib.hid hsm
        have HPA := Lib.hid hpa
        subst hpa
        go_wp2_with (go_at_call 35; refine (HSM2.out _).mono ?_; rintro e ws ⟨rfl, hcs⟩)
        go_ret
        exact ⟨_, rfl, ((HCB.out.trans' HCR.out).trans' HWD.out).trans' hcs, .inr ⟨q, HLT.out, by rw [HJ.out], HP1.out⟩⟩
      · have hsm := HSM.out
        simp only [hpa, decide_false] at hsm
        have HSM2 := Lib.hid hsm
        have HPA := Lib.hid hpa
        clear hsm hpa
        go_wp2_with (go_at_call 35; refine (HSM2.out _).mono ?_; rintro e ws ⟨rfl, hcs⟩)
        go_roundw
        case rel => exact ⟨q + 1, j + 2, by have := HJ.out; omega, HQ.out, rfl, Lib.hid ((HCR.out.trans' HWD.out).trans' hcs), Lib.hid (fun i h h1 => by
          by_cases e : i = q
          · subst e; rw [HP1.out]; exact HPA.out
          · exact HNO.out i h (by omega))⟩
        case measure => have := HJM.out; simp [intOf, wj2]; omega
    · have hnl : ¬ (((j + 1 : Nat) : Int)) < (m : Int) := by have := HM.out; omega
      have hq2 : q = P.length := by omega
      have HALLN : Hid (∀ p ∈ P, p.1 ≠ a) := Lib.hid (fun p hp => by
        obtain ⟨i, hi, rfl⟩ := List.mem_iff_getElem.1 hp
        exact HNO.out i hi (by omega))
      clear hlt hq2 hq hj
      go_wp2_with fail
      go_ret
      exact ⟨_, rfl, HCB.out.trans' HCR.out, .inl ⟨rfl, (fun x y hxy => HALLN.out (x, y) hxy)⟩⟩
end Go.Proofs.YthiiehanlconeaaDoor
