/-
  History.Name, History.Scroll.
  History.Navigate.
-/
import Derived.Test.YtiecgbmeobpomaaDoorPHistoryNewe
namespace Go.Proofs.YtiecgbmeobpomaaDoor
open Go.RowKit
set_option linter.unusedVariables false
set_option linter.unusedSimpArgs false

theorem flatE_edit {rs : List EntR} {r r' : EntR} {at_ c : Nat} {zs : List Value} (hr : rs[at_]? = some r) (hc : c + zs.length ≤ 8) (he : r'.cells = r.cells.take c ++ zs ++ r.cells.drop (c + zs.length)) :
    (rs.flatMap EntR.cells).take (at_ * 8 + c) ++ zs ++ (rs.flatMap EntR.cells).drop (at_ * 8 + c + zs.length) = (rs.set at_ r').flatMap EntR.cells := by
  obtain ⟨hal, hg⟩ := List.getElem?_eq_some_iff.1 hr
  have hl8 : r.cells.length = 8 := EntR.len r
  have hd : (rs.flatMap EntR.cells).drop (at_ * 8) = r.cells ++ (rs.flatMap EntR.cells).drop (at_ * 8 + 8) := by
    rw [flatE_drop, show at_ * 8 + 8 = (at_ + 1) * 8 by omega, flatE_drop, List.drop_eq_getElem_cons hal, List.flatMap_cons, hg]
  rw [← flatE_set r' rs at_ hal, he, List.take_add, hd, List.take_append_of_le_length (by omega), show at_ * 8 + c + zs.length = at_ * 8 + (c + zs.length) by omega, ← List.drop_drop, hd, List.drop_append_of_le_length (by omega)]
  simp only [List.append_assoc]
theorem cell_lt_block {w : World} {g i T : Nat} {c : Array Value} {f : Nat × Nat} {u : Value} (h : w.heap[g]? = some (.cells c T f)) (hc : w.cell? ⟨g, i, none⟩ = some u) : i < c.size := by
  by_cases hi : i < c.size
  · exact hi
  · exfalso
    simp [World.cell?, h, hi] at hc
set_option maxHeartbeats 6400000 in
set_option maxRecDepth 100000 in
theorem name_any (w0 : Past) (w : World) (b : Nat) (h : Hist) (vl vs : Value) (rs : List EntR) (H : HiAt w0 w b h vl vs rs) (t : ByteArray) :
    Calls Tryd.prog 28 #[.pointer (some ⟨b, 0, none⟩), .string t] w fun z w' => z = .returned (.tuple #[]) ∧ OpX w0 w b (Mut b vl vs) (nameM h t) w' := by
  obtain ⟨g, off, cl, r, pn, nn, cn, pp, np, cp, rfl, hcl, hr, hre, hea, ⟨curA, hgA⟩, hcell⟩ := H.entCells
  have HH := Lib.hid H
  have d0 := cell_of_block (i := 0) H.box rfl
  have d1 := cell_of_block (i := 1) H.box rfl
  simp only [List.getElem_toArray, List.getElem_cons_zero, List.getElem_cons_succ] at d0 d1
  have HEA := Lib.hid hea
  have HCL := Lib.hid hcell
  have HGA := Lib.hid hgA
  have HRE := Lib.hid hre
  have HRR := Lib.hid hr
  have a0 : (0 : Int) ≤ (h.at_ : Int) := by omega
  have a1 : (h.at_ : Int) < (rs.length : Int) := by have := H.ok; have := H.len; omega
  have HAT : Hid (h.at_ + 1 ≤ rs.length) := Lib.hid (by have := H.ok; have := H.len; omega)
  have HR100 : Hid (rs.length ≤ 100) := Lib.hid (by have := H.few; have := H.len; omega)
  have HMS : Hid (MsgOk (curE h).msg) := Lib.hid (H.msgs _ (curE_mem h H.ok))
  clear hre hea hcell hgA hr H hcl
  have HAE := Lib.hid (rfl : h.at_ = h.at_)
  generalize hat : h.at_ = at_ at a0 a1 d1 HAT HCL HRR ⊢
  have HHAT := Lib.hid hat
  clear hat HAE
  go_enter Tryd.func28, Tryd.ntmps28
  go_upto_region 0 with fail
  go_quiet (fail)
  go_upto_region 1 with fail
  have HC4 := Lib.hid (Chg.drewN (fun _ => False) w nq)
  generalize w.drewN nq = w4 at *
  have HS0 : Hid (w4.cell? ⟨b, 0, none⟩ = some (.slice (some ⟨g, off, none⟩) rs.length cl) ∧ w4.cell? ⟨b, 1, none⟩ = some (.int .i64 (at_ : Int))) := Lib.hid ⟨HC4.out.cell d0, HC4.out.cell d1⟩
  clear d0 d1
  refine wp_region_held_split 11 (fun w' => w'.cell? ⟨b, 0, none⟩ = some (.slice (some ⟨g, off, none⟩) rs.length cl) ∧ w'.cell? ⟨b, 1, none⟩ = some (.int .i64 (at_ : Int))) (by kernel_rfl) (by kernel_rfl) ?_ (fun hHeld => ?_)
  · (first | exact HS0.out | exact HKS.out _ (Chg.refl _ _))
  simp only [List.take_succ_cons, List.take_zero]
  have HKS : Hid (∀ W, Chg (fun _ => False) w4.drew W → W.cell? ⟨b, 0, none⟩ = some (.slice (some ⟨g, off, none⟩) rs.length cl) ∧ W.cell? ⟨b, 1, none⟩ = some (.int .i64 (at_ : Int))) := Lib.hid (fun W hc => ⟨hc.cell HS0.out.1, hc.cell HS0.out.2⟩)
  have HWD : Hid (Chg (fun _ => False) w4 w4.drew) := Lib.hid (Chg.refl _ w4).drewR
  generalize w4.drew = wD at *
  have HCD := Lib.hid (HC4.out.trans' HWD.out)
  have hgD := HCD.out.keep HGA.out (fun x => x)
  have ce0 : wD.cell? ⟨g, off + at_ * 8 + 3, none⟩ = some (.string (curE h).title) := by
    have h1 := HCL.out 3 _ (by rw [HRE.out]; rfl) (by omega)
    have h2 := HCD.out.cell h1
    exact h2
  have fr0 : wD.frozen? ⟨g, off + at_ * 8 + 3, none⟩ = false := frozen_of_block hgD
  refine wpAnyH_take (i := 0) (v := ?_) rfl (by kernel_rfl) (by kernel_rfl) (by kernel_rfl) (fun _ _ _ h => h) (Or.inl ⟨by rfl, ?_⟩) (by assumption) ?_
  rotate_left
  · (intro wq hSw; (try dsimp only at hSw); go_simp; (try with_reducible rfl))
  simp only [Act.put, List.getElem_toArray, List.getElem_cons_zero, List.getElem_cons_succ, List.setIfInBounds_toArray, List.set_cons_zero, List.set_cons_succ]
  refine wpAnyH_take (i := 1) (v := ?_) rfl (by kernel_rfl) (by kernel_rfl) (by kernel_rfl) (fun _ _ _ h => h) (Or.inl ⟨by rfl, ?_⟩) (by assumption) ?_
  rotate_left
  · (intro wq hSw; (try dsimp only at hSw); go_simp; (try with_reducible rfl))
  simp only [Act.put, List.getElem_toArray, List.getElem_cons_zero, List.getElem_cons_succ, List.setIfInBounds_toArray, List.set_cons_zero, List.set_cons_succ]
  refine wpAnyH_take (i := 2) (v := ?_) rfl (by kernel_rfl) (by kernel_rfl) (by kernel_rfl) (fun _ _ _ h => h) (Or.inl ⟨by rfl, ?_⟩) (by assumption) ?_
  rotate_left
  · (intro wq hSw; (try dsimp only at hSw); go_simp; (try with_reducible rfl))
  simp only [Act.put, List.getElem_toArray, List.getElem_cons_zero, List.getElem_cons_succ, List.setIfInBounds_toArray, List.set_cons_zero, List.set_cons_succ]
  refine wpAnyH_take (i := 3) (v := ?_) rfl (by kernel_rfl) (by kernel_rfl) (by kernel_rfl) (fun _ _ _ h => h) (Or.inl ⟨by rfl, ?_⟩) (by assumption) ?_
  rotate_left
  · (intro wq hSw; (try dsimp only at hSw); go_simp; (try with_reducible rfl))
  simp only [Act.put, List.getElem_toArray, List.getElem_cons_zero, List.getElem_cons_succ, List.setIfInBounds_toArray, List.set_cons_zero, List.set_cons_succ]
  refine wpAnyH_take (i := 4) (v := ?_) rfl (by kernel_rfl) (by kernel_rfl) (by kernel_rfl) (fun _ _ _ h => h) (Or.inl ⟨by rfl, ?_⟩) (by assumption) ?_
  rotate_left
  · (intro wq hSw; (try dsimp only at hSw); go_simp; (try with_reducible rfl))
  simp only [Act.put, List.getElem_toArray, List.getElem_cons_zero, List.getElem_cons_succ, List.setIfInBounds_toArray, List.set_cons_zero, List.set_cons_succ]
  refine wpAnyH_take (i := 5) (v := ?_) rfl (by kernel_rfl) (by kernel_rfl) (by kernel_rfl) (fun _ _ _ h => h) (Or.inl ⟨by rfl, ?_⟩) (by assumption) ?_
  rotate_left
  · (intro wq hSw; (try dsimp only at hSw); go_simp; (try with_reducible rfl))
  simp only [Act.put, List.getElem_toArray, List.getElem_cons_zero, List.getElem_cons_succ, List.setIfInBounds_toArray, List.set_cons_zero, List.set_cons_succ]
  refine wpAnyH_take (i := 6) (v := ?_) rfl (by kernel_rfl) (by kernel_rfl) (by kernel_rfl) (fun _ _ _ h => h) (Or.inl ⟨by rfl, ?_⟩) (by assumption) ?_
  rotate_left
  · (intro wq hSw; (try dsimp only at hSw); go_simp; (try with_reducible rfl))
  simp only [Act.put, List.getElem_toArray, List.getElem_cons_zero, List.getElem_cons_succ, List.setIfInBounds_toArray, List.set_cons_zero, List.set_cons_succ]
  refine wpAnyH_take (i := 7) (v := ?_) rfl (by kernel_rfl) (by kernel_rfl) (by kernel_rfl) (fun _ _ _ h => h) (Or.inl ⟨by rfl, ?_⟩) (by assumption) ?_
  rotate_left
  · (intro wq hSw; (try dsimp only at hSw); go_simp; (try with_reducible rfl))
  simp only [Act.put, List.getElem_toArray, List.getElem_cons_zero, List.getElem_cons_succ, List.setIfInBounds_toArray, List.set_cons_zero, List.set_cons_succ]
  refine wpAnyH_take (i := 8) (v := ?_) rfl (by kernel_rfl) (by kernel_rfl) (by kernel_rfl) (fun _ _ _ h => h) (Or.inl ⟨by rfl, ?_⟩) (by assumption) ?_
  rotate_left
  · (intro wq hSw; (try dsimp only at hSw); go_simp; (try with_reducible rfl))
  simp only [Act.put, List.getElem_toArray, List.getElem_cons_zero, List.getElem_cons_succ, List.setIfInBounds_toArray, List.set_cons_zero, List.set_cons_succ]
  refine wpAnyH_take (i := 9) (v := ?_) rfl (by kernel_rfl) (by kernel_rfl) (by kernel_rfl) (fun _ _ _ h => h) (Or.inl ⟨by rfl, ?_⟩) (by assumption) ?_
  rotate_left
  · (intro wq hSw; (try dsimp only at hSw); go_simp; (try with_reducible rfl))
  simp only [Act.put, List.getElem_toArray, List.getElem_cons_zero, List.getElem_cons_succ, List.setIfInBounds_toArray, List.set_cons_zero, List.set_cons_succ]
  refine wpAnyH_take (i := 10) (v := ?_) rfl (by kernel_rfl) (by kernel_rfl) (by kernel_rfl) (fun _ _ _ h => h) (Or.inl ⟨by rfl, ?_⟩) (by assumption) ?_
  rotate_left
  · (intro wq hSw; (try dsimp only at hSw); go_simp; (try with_reducible rfl))
  simp only [Act.put, List.getElem_toArray, List.getElem_cons_zero, List.getElem_cons_succ, List.setIfInBounds_toArray, List.set_cons_zero, List.set_cons_succ]
  refine wpAnyH_done (by kernel_rfl) ?_ _
  change wpList _ _ _ _ _ _
  simp only [List.drop_succ_cons, List.drop_zero]
  clear hHeld
  go_wp2_with fail
  go_end0
  have hal : at_ < rs.length := HAT.out
  have hrow := put_cellsN (i := at_ * 8 + 3) (zs := [.string t]) (HH.out.row.chg HCD.out (fun _ _ x => x)) (by simp only [List.length_cons, List.length_nil]; have := HAT.out; omega)
  rw [← Nat.add_assoc] at hrow
  have hch : Chg (fun k => k = g) w (wD.setCells g (off + at_ * 8 + 3) [.string t]) := HCD.out.trans (Chg.setCells (b := g) [.string t] wD (off + at_ * 8 + 3)) (fun _ _ x => x.elim) (fun _ _ x => x)
  rw [flatE_edit (r' := { r with title := t }) HRR.out (by simp only [List.length_cons, List.length_nil]; omega) (by rw [HRE.out]; rfl)] at hrow
  have hea : EntAt (Off w0 b (.slice (some ⟨g, off, none⟩) rs.length cl) vs) wD r (curE h) := HEA.out.chg HCD.out (fun _ _ x => x.elim) (fun _ _ x => x)
  have hh := HH.out.still HCD.out
  have hed := hh.edited (w1 := wD.setCells g (off + at_ * 8 + 3) [.string t]) { r with title := t } { curE h with title := t } ((Chg.setCells (b := g) [.string t] wD (off + at_ * 8 + 3)).mono (fun k _ e => by subst e; rfl)) (by rw [HHAT.out]; exact hrow) ⟨hea.id, hea.page, hea.url, rfl, hea.msg, hea.x, hea.y⟩ HMS.out
  refine ⟨rfl, _, _, _, hed, hch.mono (fun k _ e => .inr (.inl (by subst e; rfl))), fun k _ x => x⟩
set_option maxHeartbeats 6400000 in
set_option maxRecDepth 100000 in
theorem scroll_any (w0 : Past) (w : World) (b : Nat) (h : Hist) (vl vs : Value) (rs : List EntR) (H : HiAt w0 w b h vl vs rs) (x y : Int) :
    Calls Tryd.prog 27 #[.pointer (some ⟨b, 0, none⟩), .int .i64 x, .int .i64 y] w fun z w' => z = .returned (.tuple #[]) ∧ OpX w0 w b (Mut b vl vs) (scrollM h x y) w' := by
  obtain ⟨g, off, cl, r, pn, nn, cn, pp, np, cp, rfl, hcl, hr, hre, hea, ⟨curA, hgA⟩, hcell⟩ := H.entCells
  have HH := Lib.hid H
  have d0 := cell_of_block (i := 0) H.box rfl
  have d1 := cell_of_block (i := 1) H.box rfl
  simp only [List.getElem_toArray, List.getElem_cons_zero, List.getElem_cons_succ] at d0 d1
  have HEA := Lib.hid hea
  have HCL := Lib.hid hcell
  have HGA := Lib.hid hgA
  have HRE := Lib.hid hre
  have HRR := Lib.hid hr
  have a0 : (0 : Int) ≤ (h.at_ : Int) := by omega
  have a1 : (h.at_ : Int) < (rs.length : Int) := by have := H.ok; have := H.len; omega
  have HAT : Hid (h.at_ + 1 ≤ rs.length) := Lib.hid (by have := H.ok; have := H.len; omega)
  have HR100 : Hid (rs.length ≤ 100) := Lib.hid (by have := H.few; have := H.len; omega)
  have HMS : Hid (MsgOk (curE h).msg) := Lib.hid (H.msgs _ (curE_mem h H.ok))
  clear hre hea hcell hgA hr H hcl
  have HAE := Lib.hid (rfl : h.at_ = h.at_)
  generalize hat : h.at_ = at_ at a0 a1 d1 HAT HCL HRR ⊢
  have HHAT := Lib.hid hat
  clear hat HAE
  go_enter Tryd.func27, Tryd.ntmps27
  go_upto_region 0 with fail
  go_quiet (fail)
  go_upto_region 1 with fail
  have HC4 := Lib.hid (Chg.drewN (fun _ => False) w nq)
  generalize w.drewN nq = w4 at *
  have HS0 : Hid (w4.cell? ⟨b, 0, none⟩ = some (.slice (some ⟨g, off, none⟩) rs.length cl) ∧ w4.cell? ⟨b, 1, none⟩ = some (.int .i64 (at_ : Int))) := Lib.hid ⟨HC4.out.cell d0, HC4.out.cell d1⟩
  clear d0 d1
  refine wp_region_held_split 23 (fun w' => w'.cell? ⟨b, 0, none⟩ = some (.slice (some ⟨g, off, none⟩) rs.length cl) ∧ w'.cell? ⟨b, 1, none⟩ = some (.int .i64 (at_ : Int))) (by kernel_rfl) (by kernel_rfl) ?_ (fun hHeld => ?_)
  · (first | exact HS0.out | exact HKS.out _ (Chg.refl _ _) | exact zc1 | exact zc2)
  simp only [List.take_succ_cons, List.take_zero]
  have HKS : Hid (∀ W, Chg (fun _ => False) w4.drew W → W.cell? ⟨b, 0, none⟩ = some (.slice (some ⟨g, off, none⟩) rs.length cl) ∧ W.cell? ⟨b, 1, none⟩ = some (.int .i64 (at_ : Int))) := Lib.hid (fun W hc => ⟨hc.cell HS0.out.1, hc.cell HS0.out.2⟩)
  have HWD : Hid (Chg (fun _ => False) w4 w4.drew) := Lib.hid (Chg.refl _ w4).drewR
  generalize w4.drew = wD at *
  have HCD := Lib.hid (HC4.out.trans' HWD.out)
  have hgD := HCD.out.keep HGA.out (fun x => x)
  have ce0 : wD.cell? ⟨g, off + at_ * 8 + 6, none⟩ = some (.int .i64 (curE h).x) := by
    have h1 := HCL.out 6 _ (by rw [HRE.out]; rfl) (by omega)
    have h2 := HCD.out.cell h1
    exact h2
  have fr0 : wD.frozen? ⟨g, off + at_ * 8 + 6, none⟩ = false := frozen_of_block hgD
  have hg2 := setCell_block (i := off + at_ * 8 + 6) (.int .i64 x) hgD
  have fr1 : (wD.setCell ⟨g, off + at_ * 8 + 6, none⟩ (.int .i64 x)).frozen? ⟨g, off + at_ * 8 + 7, none⟩ = false := frozen_of_block hg2
  obtain ⟨u1, ce1⟩ : ∃ u, (wD.setCell ⟨g, off + at_ * 8 + 6, none⟩ (.int .i64 x)).cell? ⟨g, off + at_ * 8 + 7, none⟩ = some u := by
    have h1 := HCL.out 7 _ (by rw [HRE.out]; rfl) (by omega)
    have h2 := HCD.out.cell h1
    have h3 := cell_lt_block hgD h2
    exact ⟨_, cell_of_block hg2 (Array.getElem?_eq_getElem (by rw [Array.size_setIfInBounds]; exact h3))⟩
  have hgb : ¬ b = g := fun e => HH.out.lb (by subst e; rfl)
  have zc1 : (wD.setCell ⟨g, off + at_ * 8 + 6, none⟩ (.int .i64 x)).cell? ⟨b, 0, none⟩ = some (.slice (some ⟨g, off, none⟩) rs.length cl) ∧ (wD.setCell ⟨g, off + at_ * 8 + 6, none⟩ (.int .i64 x)).cell? ⟨b, 1, none⟩ = some (.int .i64 (at_ : Int)) := ⟨(Chg.setCell wD ⟨g, off + at_ * 8 + 6, none⟩ _).cellS (HWD.out.cell HS0.out.1) hgb, (Chg.setCell wD ⟨g, off + at_ * 8 + 6, none⟩ _).cellS (HWD.out.cell HS0.out.2) hgb⟩
  have zc2 : ((wD.setCell ⟨g, off + at_ * 8 + 6, none⟩ (.int .i64 x)).setCell ⟨g, off + at_ * 8 + 7, none⟩ (.int .i64 y)).cell? ⟨b, 0, none⟩ = some (.slice (some ⟨g, off, none⟩) rs.length cl) ∧ ((wD.setCell ⟨g, off + at_ * 8 + 6, none⟩ (.int .i64 x)).setCell ⟨g, off + at_ * 8 + 7, none⟩ (.int .i64 y)).cell? ⟨b, 1, none⟩ = some (.int .i64 (at_ : Int)) := ⟨(Chg.setCell (wD.setCell ⟨g, off + at_ * 8 + 6, none⟩ (.int .i64 x)) ⟨g, off + at_ * 8 + 7, none⟩ _).cellS zc1.1 hgb, (Chg.setCell (wD.setCell ⟨g, off + at_ * 8 + 6, none⟩ (.int .i64 x)) ⟨g, off + at_ * 8 + 7, none⟩ _).cellS zc1.2 hgb⟩
  refine wpAnyH_take (i := 0) (v := ?_) rfl (by kernel_rfl) (by kernel_rfl) (by kernel_rfl) (fun _ _ _ h => h) (Or.inl ⟨by rfl, ?_⟩) (by assumption) ?_
  rotate_left
  · (intro wq hSw; (try dsimp only at hSw); go_simp; (try with_reducible rfl))
  simp only [Act.put, List.getElem_toArray, List.getElem_cons_zero, List.getElem_cons_succ, List.setIfInBounds_toArray, List.set_cons_zero, List.set_cons_succ]
  refine wpAnyH_take (i := 1) (v := ?_) rfl (by kernel_rfl) (by kernel_rfl) (by kernel_rfl) (fun _ _ _ h => h) (Or.inl ⟨by rfl, ?_⟩) (by assumption) ?_
  rotate_left
  · (intro wq hSw; (try dsimp only at hSw); go_simp; (try with_reducible rfl))
  simp only [Act.put, List.getElem_toArray, List.getElem_cons_zero, List.getElem_cons_succ, List.setIfInBounds_toArray, List.set_cons_zero, List.set_cons_succ]
  refine wpAnyH_take (i := 2) (v := ?_) rfl (by kernel_rfl) (by kernel_rfl) (by kernel_rfl) (fun _ _ _ h => h) (Or.inl ⟨by rfl, ?_⟩) (by assumption) ?_
  rotate_left
  · (intro wq hSw; (try dsimp only at hSw); go_simp; (try with_reducible rfl))
  simp only [Act.put, List.getElem_toArray, List.getElem_cons_zero, List.getElem_cons_succ, List.setIfInBounds_toArray, List.set_cons_zero, List.set_cons_succ]
  refine wpAnyH_take (i := 3) (v := ?_) rfl (by kernel_rfl) (by kernel_rfl) (by kernel_rfl) (fun _ _ _ h => h) (Or.inl ⟨by rfl, ?_⟩) (by assumption) ?_
  rotate_left
  · (intro wq hSw; (try dsimp only at hSw); go_simp; (try with_reducible rfl))
  simp only [Act.put, List.getElem_toArray, List.getElem_cons_zero, List.getElem_cons_succ, List.setIfInBounds_toArray, List.set_cons_zero, List.set_cons_succ]
  refine wpAnyH_take (i := 4) (v := ?_) rfl (by kernel_rfl) (by kernel_rfl) (by kernel_rfl) (fun _ _ _ h => h) (Or.inl ⟨by rfl, ?_⟩) (by assumption) ?_
  rotate_left
  · (intro wq hSw; (try dsimp only at hSw); go_simp; (try with_reducible rfl))
  simp only [Act.put, List.getElem_toArray, List.getElem_cons_zero, List.getElem_cons_succ, List.setIfInBounds_toArray, List.set_cons_zero, List.set_cons_succ]
  refine wpAnyH_take (i := 5) (v := ?_) rfl (by kernel_rfl) (by kernel_rfl) (by kernel_rfl) (fun _ _ _ h => h) (Or.inl ⟨by rfl, ?_⟩) (by assumption) ?_
  rotate_left
  · (intro wq hSw; (try dsimp only at hSw); go_simp; (try with_reducible rfl))
  simp only [Act.put, List.getElem_toArray, List.getElem_cons_zero, List.getElem_cons_succ, List.setIfInBounds_toArray, List.set_cons_zero, List.set_cons_succ]
  refine wpAnyH_take (i := 6) (v := ?_) rfl (by kernel_rfl) (by kernel_rfl) (by kernel_rfl) (fun _ _ _ h => h) (Or.inl ⟨by rfl, ?_⟩) (by assumption) ?_
  rotate_left
  · (intro wq hSw; (try dsimp only at hSw); go_simp; (try with_reducible rfl))
  simp only [Act.put, List.getElem_toArray, List.getElem_cons_zero, List.getElem_cons_succ, List.setIfInBounds_toArray, List.set_cons_zero, List.set_cons_succ]
  refine wpAnyH_take (i := 7) (v := ?_) rfl (by kernel_rfl) (by kernel_rfl) (by kernel_rfl) (fun _ _ _ h => h) (Or.inl ⟨by rfl, ?_⟩) (by assumption) ?_
  rotate_left
  · (intro wq hSw; (try dsimp only at hSw); go_simp; (try with_reducible rfl))
  simp only [Act.put, List.getElem_toArray, List.getElem_cons_zero, List.getElem_cons_succ, List.setIfInBounds_toArray, List.set_cons_zero, List.set_cons_succ]
  refine wpAnyH_take (i := 8) (v := ?_) rfl (by kernel_rfl) (by kernel_rfl) (by kernel_rfl) (fun _ _ _ h => h) (Or.inl ⟨by rfl, ?_⟩) (by assumption) ?_
  rotate_left
  · (intro wq hSw; (try dsimp only at hSw); go_simp; (try with_reducible rfl))
  simp only [Act.put, List.getElem_toArray, List.getElem_cons_zero, List.getElem_cons_succ, List.setIfInBounds_toArray, List.set_cons_zero, List.set_cons_succ]
  refine wpAnyH_take (i := 9) (v := ?_) rfl (by kernel_rfl) (by kernel_rfl) (by kernel_rfl) (fun _ _ _ h => h) (Or.inl ⟨by rfl, ?_⟩) (by assumption) ?_
  rotate_left
  · (intro wq hSw; (try dsimp only at hSw); go_simp; (try with_reducible rfl))
  simp only [Act.put, List.getElem_toArray, List.getElem_cons_zero, List.getElem_cons_succ, List.setIfInBounds_toArray, List.set_cons_zero, List.set_cons_succ]
  refine wpAnyH_take (i := 10) (v := ?_) rfl (by kernel_rfl) (by kernel_rfl) (by kernel_rfl) (fun _ _ _ h => h) (Or.inl ⟨by rfl, ?_⟩) (by assumption) ?_
  rotate_left
  · (intro wq hSw; (try dsimp only at hSw); go_simp; (try with_reducible rfl))
  simp only [Act.put, List.getElem_toArray, List.getElem_cons_zero, List.getElem_cons_succ, List.setIfInBounds_toArray, List.set_cons_zero, List.set_cons_succ]
  refine wpAnyH_take (i := 11) (v := ?_) rfl (by kernel_rfl) (by kernel_rfl) (by kernel_rfl) (fun _ _ _ h => h) (Or.inl ⟨by rfl, ?_⟩) (by assumption) ?_
  rotate_left
  · (intro wq hSw; (try dsimp only at hSw); go_simp; (try with_reducible rfl))
  simp only [Act.put, List.getElem_toArray, List.getElem_cons_zero, List.getElem_cons_succ, List.setIfInBounds_toArray, List.set_cons_zero, List.set_cons_succ]
  refine wpAnyH_take (i := 12) (v := ?_) rfl (by kernel_rfl) (by kernel_rfl) (by kernel_rfl) (fun _ _ _ h => h) (Or.inl ⟨by rfl, ?_⟩) (by assumption) ?_
  rotate_left
  · (intro wq hSw; (try dsimp only at hSw); go_simp; (try with_reducible rfl))
  simp only [Act.put, List.getElem_toArray, List.getElem_cons_zero, List.getElem_cons_succ, List.setIfInBounds_toArray, List.set_cons_zero, List.set_cons_succ]
  refine wpAnyH_take (i := 13) (v := ?_) rfl (by kernel_rfl) (by kernel_rfl) (by kernel_rfl) (fun _ _ _ h => h) (Or.inl ⟨by rfl, ?_⟩) (by assumption) ?_
  rotate_left
  · (intro wq hSw; (try dsimp only at hSw); go_simp; (try with_reducible rfl))
  simp only [Act.put, List.getElem_toArray, List.getElem_cons_zero, List.getElem_cons_succ, List.setIfInBounds_toArray, List.set_cons_zero, List.set_cons_succ]
  refine wpAnyH_take (i := 14) (v := ?_) rfl (by kernel_rfl) (by kernel_rfl) (by kernel_rfl) (fun _ _ _ h => h) (Or.inl ⟨by rfl, ?_⟩) (by assumption) ?_
  rotate_left
  · (intro wq hSw; (try dsimp only at hSw); go_simp; (try with_reducible rfl))
  simp only [Act.put, List.getElem_toArray, List.getElem_cons_zero, List.getElem_cons_succ, List.setIfInBounds_toArray, List.set_cons_zero, List.set_cons_succ]
  refine wpAnyH_take (i := 15) (v := ?_) rfl (by kernel_rfl) (by kernel_rfl) (by kernel_rfl) (fun _ _ _ h => h) (Or.inl ⟨by rfl, ?_⟩) (by assumption) ?_
  rotate_left
  · (intro wq hSw; (try dsimp only at hSw); go_simp; (try with_reducible rfl))
  simp only [Act.put, List.getElem_toArray, List.getElem_cons_zero, List.getElem_cons_succ, List.setIfInBounds_toArray, List.set_cons_zero, List.set_cons_succ]
  refine wpAnyH_take (i := 16) (v := ?_) rfl (by kernel_rfl) (by kernel_rfl) (by kernel_rfl) (fun _ _ _ h => h) (Or.inl ⟨by rfl, ?_⟩) (by assumption) ?_
  rotate_left
  · (intro wq hSw; (try dsimp only at hSw); go_simp; (try with_reducible rfl))
  simp only [Act.put, List.getElem_toArray, List.getElem_cons_zero, List.getElem_cons_succ, List.setIfInBounds_toArray, List.set_cons_zero, List.set_cons_succ]
  refine wpAnyH_take (i := 17) (v := ?_) rfl (by kernel_rfl) (by kernel_rfl) (by kernel_rfl) (fun _ _ _ h => h) (Or.inl ⟨by rfl, ?_⟩) (by assumption) ?_
  rotate_left
  · (intro wq hSw; (try dsimp only at hSw); go_simp; (try with_reducible rfl))
  simp only [Act.put, List.getElem_toArray, List.getElem_cons_zero, List.getElem_cons_succ, List.setIfInBounds_toArray, List.set_cons_zero, List.set_cons_succ]
  refine wpAnyH_take (i := 18) (v := ?_) rfl (by kernel_rfl) (by kernel_rfl) (by kernel_rfl) (fun _ _ _ h => h) (Or.inl ⟨by rfl, ?_⟩) (by assumption) ?_
  rotate_left
  · (intro wq hSw; (try dsimp only at hSw); go_simp; (try with_reducible rfl))
  simp only [Act.put, List.getElem_toArray, List.getElem_cons_zero, List.getElem_cons_succ, List.setIfInBounds_toArray, List.set_cons_zero, List.set_cons_succ]
  refine wpAnyH_take (i := 19) (v := ?_) rfl (by kernel_rfl) (by kernel_rfl) (by kernel_rfl) (fun _ _ _ h => h) (Or.inl ⟨by rfl, ?_⟩) (by assumption) ?_
  rotate_left
  · (intro wq hSw; (try dsimp only at hSw); go_simp; (try with_reducible rfl))
  simp only [Act.put, List.getElem_toArray, List.getElem_cons_zero, List.getElem_cons_succ, List.setIfInBounds_toArray, List.set_cons_zero, List.set_cons_succ]
  refine wpAnyH_ready (rs := [20]) (by kernel_rfl) (by simp) ?_
  refine AllReadyH.cons (by simp only [List.getElem?_toArray, List.getElem?_cons_succ, List.getElem?_cons_zero]; rfl) (fun K hK => ?_) AllReadyH.nil
  go_simp
  refine hK.out _ _ ?_ (fun hHeld => ?_)
  · (first | exact HS0.out | exact HKS.out _ (Chg.refl _ _) | exact zc1 | exact zc2)
  clear hK K
  (try simp only [Act.put, List.getElem_toArray, List.getElem_cons_zero, List.getElem_cons_succ, List.setIfInBounds_toArray, List.set_cons_zero, List.set_cons_succ])
  refine wpAnyH_take (i := 21) (v := ?_) rfl (by kernel_rfl) (by kernel_rfl) (by kernel_rfl) (fun _ _ _ h => h) (Or.inl ⟨by rfl, ?_⟩) (by assumption) ?_
  rotate_left
  · (intro wq hSw; (try dsimp only at hSw); go_simp; (try with_reducible rfl))
  simp only [Act.put, List.getElem_toArray, List.getElem_cons_zero, List.getElem_cons_succ, List.setIfInBounds_toArray, List.set_cons_zero, List.set_cons_succ]
  refine wpAnyH_take (i := 22) (v := ?_) rfl (by kernel_rfl) (by kernel_rfl) (by kernel_rfl) (fun _ _ _ h => h) (Or.inl ⟨by rfl, ?_⟩) (by assumption) ?_
  rotate_left
  · (intro wq hSw; (try dsimp only at hSw); go_simp; (try with_reducible rfl))
  simp only [Act.put, List.getElem_toArray, List.getElem_cons_zero, List.getElem_cons_succ, List.setIfInBounds_toArray, List.set_cons_zero, List.set_cons_succ]
  refine wpAnyH_done (by kernel_rfl) ?_ _
  change wpList _ _ _ _ _ _
  simp only [List.drop_succ_cons, List.drop_zero]
  clear hHeld
  go_wp2_with fail
  go_end0
  have hal : at_ < rs.length := HAT.out
  have hrow := put_cellsN (i := at_ * 8 + 6) (zs := [.int .i64 x, .int .i64 y]) (HH.out.row.chg HCD.out (fun _ _ x => x)) (by simp only [List.length_cons, List.length_nil]; have := HAT.out; omega)
  rw [← Nat.add_assoc] at hrow
  have hch : Chg (fun k => k = g) w (wD.setCells g (off + at_ * 8 + 6) [.int .i64 x, .int .i64 y]) := HCD.out.trans (Chg.setCells (b := g) [.int .i64 x, .int .i64 y] wD (off + at_ * 8 + 6)) (fun _ _ x => x.elim) (fun _ _ x => x)
  rw [flatE_edit (r' := { r with x := x, y := y }) HRR.out (by simp only [List.length_cons, List.length_nil]; omega) (by rw [HRE.out]; rfl)] at hrow
  have hea : EntAt (Off w0 b (.slice (some ⟨g, off, none⟩) rs.length cl) vs) wD r (curE h) := HEA.out.chg HCD.out (fun _ _ x => x.elim) (fun _ _ x => x)
  have hh := HH.out.still HCD.out
  have hed := hh.edited (w1 := wD.setCells g (off + at_ * 8 + 6) [.int .i64 x, .int .i64 y]) { r with x := x, y := y } { curE h with x := x, y := y } ((Chg.setCells (b := g) [.int .i64 x, .int .i64 y] wD (off + at_ * 8 + 6)).mono (fun k _ e => by subst e; rfl)) (by rw [HHAT.out]; exact hrow) ⟨hea.id, hea.page, hea.url, hea.title, hea.msg, rfl, rfl⟩ HMS.out
  refine ⟨rfl, _, _, _, hed, hch.mono (fun k _ e => .inr (.inl (by subst e; rfl))), fun k _ x => x⟩
end Go.Proofs.YtiecgbmeobpomaaDoor
namespace Go.Proofs.YtiecgbmeobpomaaDoor
open Go.RowKit
set_option linter.unusedVariables false
set_option linter.unusedSimpArgs false

section
variable {w0 w0' : Past} {w w1 : World} {b : Nat} {h : Hist} {vl vs : Value} {rs : List EntR}
theorem HiAt.write (H : HiAt w0 w b h vl vs rs) {S : Nat → Prop} (hc : Chg S w w1) (hS : ∀ k, S k → w0.X k) (hS0 : ∀ k, S k → w0.heap.size ≤ k) : HiAt w0 w1 b h vl vs rs :=
  H.grow hc (fun k _ x => hS k x) hS0 w0.X (fun k x => ⟨.inl x, Nat.lt_of_lt_of_le (H.xl k x) hc.size⟩)
theorem HiAt.shrink (H : HiAt w0' w b h vl vs rs) (hw : w0'.toWorld = w0.toWorld) (hX : ∀ k, w0.X k → w0'.X k) : HiAt w0 w b h vl vs rs := by
  obtain ⟨u, X⟩ := w0
  obtain ⟨u', X'⟩ := w0'
  have hw : u' = u := hw
  subst hw
  exact ⟨H.box, H.row, H.slp, H.len, fun i a c => (H.each i a c).chg (Chg.refl (fun _ => False) w) (fun _ _ x => x.elim) (fun k _ x => x.elim .inl (fun y => .inr (hX k y))), H.lb, H.sb, H.ls, H.lo, H.chg, H.ok, H.few, H.msgs, fun k x => H.xl k (hX k x), fun k hk x => H.xm k hk (hX k x)⟩
/-- A new block is none of the history's. -/
theorem HiAt.beside (H : HiAt w0 w b h vl vs rs) (o : _root_.Go.Obj) : ∃ w0' : Past, w0'.toWorld = w0.toWorld ∧ (∀ k, w0'.X k ↔ w0.X k ∨ k = w.heap.size) ∧ HiAt w0' (w.alloc o) b h vl vs rs :=
  ⟨⟨w0, fun k => w0.X k ∨ k = w.heap.size⟩, rfl, fun _ => Iff.rfl, H.grow (Chg.alloc (fun _ => False) w o) (fun _ _ x => x.elim) (fun _ x => x.elim) _ (fun k x => by
    rw [World.size_alloc]
    rcases x with x | x
    · exact ⟨.inl x, by have := H.xl k x; omega⟩
    · exact ⟨.inr (by omega), by omega⟩)⟩
/-- What an operation made is none of the history's, either. -/
theorem HiAt.regrow {h' : Hist} {vs' : Value} (H : HiAt w0 w b h vl vs rs) (H' : HiAt w0 w1 b h' vl vs' rs) (hl : h'.list = h.list) (hc : Chg (Mut b vl vs) w w1) (hsub : ∀ k, Mut b vl vs' k → Mut b vl vs k) (X : Nat → Prop) (hX : ∀ k, X k → (w0.X k ∨ w.heap.size ≤ k) ∧ k < w1.heap.size) : HiAt ⟨w0, X⟩ w1 b h' vl vs' rs := by
  refine ⟨H'.box, H'.row, H'.slp, H'.len, fun i a c => ?_, H'.lb, H'.sb, H'.ls, H'.lo, H'.chg, H'.ok, H'.few, H'.msgs, fun k x => (hX k x).2, fun k hk x => (hX k x).1.elim (H'.xm k hk) (fun y => by have := H.mutLt k (hsub k hk); omega)⟩
  have hc' : i < h.list.length := by rw [← hl]; exact c
  have he : h'.list[i] = h.list[i] := List.getElem_of_eq hl c
  rw [he]
  exact (H.each i a hc').chg hc (fun k _ x => .inl x) (fun k hk x => x.elim (fun y => .inl (hsub k y)) (fun y => (hX k y).1.elim .inr (fun z => by omega)))
end
theorem run_page (id page x y : Int) (url title : ByteArray) (p q : Option Addr) (n c m d : Nat) (w : World) : (Instr.field 34 (.agg #[.int .i64 id, .int .i64 page, .string url, .string title, .slice p n c, .slice q m d, .int .i64 x, .int .i64 y]) 1).run Tryd.prog w = .ok (.int .i64 page) w := by kernel_rfl
set_option maxHeartbeats 6400000 in
set_option maxRecDepth 100000 in
theorem navigate_any (w0 : Past) (w : World) (b : Nat) (h : Hist) (vl vs : Value) (rs : List EntR) (H : HiAt w0 w b h vl vs rs) (url : ByteArray) (keep : Bool) (hl : h.list.length ≤ 60) (hsl : h.sleeping.length ≤ 900) (hnx : 0 ≤ h.next ∧ h.next ≤ 1000000) (hpg : 0 ≤ h.nextPage ∧ h.nextPage ≤ 1000000) :
    Calls Tryd.prog 22 #[.pointer (some ⟨b, 0, none⟩), .string url, .bool keep] w fun z w' => ∃ zv, z = .returned zv ∧ OpV w0 w b (Mut b vl vs) (navM h url keep) (navV h url keep) zv w' := by
  have HMLT := Lib.hid H.mutLt
  have HB0 : Hid (w0.heap.size ≤ w.heap.size) := Lib.hid H.chg.size
  obtain ⟨w06, hw6e, hx6, H1⟩ := H.beside (.cells #[.int .i64 0, .int .i64 0, .string ⟨#[]⟩, .string ⟨#[]⟩, .slice none 0 0, .slice none 0 0, .int .i64 0, .int .i64 0, .int .i64 0, .bool false, .bool false, .slice none 0 0] 40)
  have HW6E := Lib.hid hw6e
  have HX6 := Lib.hid hx6
  have HB6 := Lib.hid (alloc_block w (.cells #[.int .i64 0, .int .i64 0, .string ⟨#[]⟩, .string ⟨#[]⟩, .slice none 0 0, .slice none 0 0, .int .i64 0, .int .i64 0, .int .i64 0, .bool false, .bool false, .slice none 0 0] 40))
  have HC1 := Lib.hid (Chg.alloc (fun _ => False) w (.cells #[.int .i64 0, .int .i64 0, .string ⟨#[]⟩, .string ⟨#[]⟩, .slice none 0 0, .slice none 0 0, .int .i64 0, .int .i64 0, .int .i64 0, .bool false, .bool false, .slice none 0 0] 40))
  have HH1 := Lib.hid H1
  have HL := Lib.hid hl
  have HSL := Lib.hid hsl
  have HNX := Lib.hid hnx
  have HPG := Lib.hid hpg
  have HCU := Lib.hid (current_any w06 _ b h vl vs rs H1 (curE h) (curE_get h H.ok))
  unfold EntC at HCU
  clear H H1 hw6e hx6 hl hsl hnx hpg
  go_enter Tryd.func22, Tryd.ntmps22
  go_upto_region 1 with fail
  have HS1 := Lib.hid (World.size_alloc w (.cells #[.int .i64 0, .int .i64 0, .string ⟨#[]⟩, .string ⟨#[]⟩, .slice none 0 0, .slice none 0 0, .int .i64 0, .int .i64 0, .int .i64 0, .bool false, .bool false, .slice none 0 0] 40))
  generalize w.alloc (.cells #[.int .i64 0, .int .i64 0, .string ⟨#[]⟩, .string ⟨#[]⟩, .slice none 0 0, .slice none 0 0, .int .i64 0, .int .i64 0, .int .i64 0, .bool false, .bool false, .slice none 0 0] 40) = w1 at *
  generalize hb6 : w.heap.size = b6 at HB6 HX6 HS1 ⊢
  have HB6W := Lib.hid hb6
  clear hb6
  go_upto_region 2 with (go_at_call 19; refine HCU.out.mono ?_; rintro _ w2 ⟨vn2, vp2, rfl, hc2, hm2⟩; obtain ⟨⟨pn2, nn2, cn2, rfl⟩, pp2, np2, cp2, rfl⟩ := hm2.vals; have hpg2 := run_page (curE h).id (curE h).page (curE h).x (curE h).y (curE h).url (curE h).title pn2 pp2 nn2 cn2 np2 cp2 w2)
  have h2 := HH1.out.still hc2
  have d3 : w2.cell? ⟨b, 3, none⟩ = some (.int .i64 h.nextPage) := cell_of_block (i := 3) h2.box rfl
  have hadd := add_any w06 w2 b h vl vs rs h2 (fun k => Mut b vl vs k) (navE h url) (.slice none 0 0) (.slice none 0 0) (fun _ x => x) (MsgAt.none _ _) msgOk0 HL.out (by have := HNX.out; omega)
  unfold EntC at hadd
  rw [show (navE h url).id = 0 from rfl, show (navE h url).page = h.nextPage from rfl, show (navE h url).url = url from rfl, show (navE h url).title = ⟨#[]⟩ from rfl, show (navE h url).x = 0 from rfl, show (navE h url).y = 0 from rfl] at hadd
  have HADD := Lib.hid hadd
  have HC2 := Lib.hid (HC1.out.trans' hc2)
  have HB62 := Lib.hid (hc2.keep HB6.out (fun x => x))
  have HS2 := Lib.hid hc2.size
  clear hadd h2 hc2 hm2 HC1 HB6 HH1 HCU hpg2
  generalize hold : (curE h).page = old at *
  have HOLD := Lib.hid hold
  clear hold
  go_upto_region 3 with (go_at_call 43; refine HADD.out.mono ?_; rintro _ w3 ⟨rfl, vl3, vs3, rs3, h3, hc3, hm3⟩)
  have d3 : w3.cell? ⟨b, 3, none⟩ = some (.int .i64 h.nextPage) := cell_of_block (i := 3) h3.box rfl
  have f3 := frozen_of_block (i := 3) h3.box
  have hpg := HPG.out
  have wn : IntKind.i64.wrap (h.nextPage + 1) = h.nextPage + 1 := IntWalk.i64_in _ (by omega)
  have wn2 : wrap64 (h.nextPage + 1) = h.nextPage + 1 := IntWalk.wrap64_in _ (by omega)
  clear hpg
  go_upto_region 4 with fail
  have hb3s := setCell_block (i := 3) (.int .i64 (h.nextPage + 1)) h3.box
  have hc34 : Chg (fun k => k = b) w3 (w3.setCell ⟨b, 3, none⟩ (.int .i64 (h.nextPage + 1))) := Chg.setCell w3 ⟨b, 3, none⟩ _
  have h4 : HiAt w06 (w3.setCell ⟨b, 3, none⟩ (.int .i64 (h.nextPage + 1))) b (navH h url) vl3 vs3 rs3 := h3.nums hc34 (addM h (navE h url)).at_ (addM h (navE h url)).next (h.nextPage + 1) (by simpa using hb3s) h3.ok
  have HC4 := Lib.hid ((HC2.out.trans hc3 (fun _ _ x => x.elim) (fun _ _ x => x)).trans hc34 (fun _ _ x => x) (fun k _ e => .inl e))
  have HM3 := Lib.hid hm3
  have HB64 := Lib.hid (hc34.keep (hc3.keep HB62.out (fun x => by have := HMLT.out b6 x; have := HB6W.out; omega)) (fun e => by have := HMLT.out b (.inl rfl); have := HB6W.out; omega))
  have HS24 : Hid (w2.heap.size ≤ (w3.setCell ⟨b, 3, none⟩ (.int .i64 (h.nextPage + 1))).heap.size) := Lib.hid (Nat.le_trans hc3.size hc34.size)
  have HH4 := Lib.hid h4
  clear hb3s hc34 h3 hc3 hm3 d3 f3 wn wn2 HADD HB62 h4
  generalize w3.setCell ⟨b, 3, none⟩ (.int .i64 (h.nextPage + 1)) = w4 at *
  have HCU4 := Lib.hid (fun W (hc : Chg (fun _ => False) w4 W) => current_any w06 W b (navH h url) vl3 vs3 rs3 (HH4.out.still hc) (curE (navH h url)) (curE_get _ HH4.out.ok))
  unfold EntC at HCU4
  generalize hce : curE (navH h url) = e at HCU4
  have HCE := Lib.hid hce
  clear hce
  go_upto_region 5 with (go_at_call 19; first
    | (refine (HCU4.out _ HC5.out).mono ?_; rintro _ w6 ⟨vn6, vp6, rfl, hc6, hm6⟩; obtain ⟨⟨pn6, nn6, cn6, rfl⟩, pp6, np6, cp6, rfl⟩ := hm6.vals; have hpg6 := run_page e.id e.page e.x e.y e.url e.title pn6 pp6 nn6 cn6 np6 cp6 w6; clear hm6)
    | (refine (HCU4.out _ (Chg.refl _ _)).mono ?_; rintro _ w5 ⟨vn5, vp5, rfl, hc5, hm5⟩; obtain ⟨⟨qn, mn, dn, rfl⟩, qp, mp, dp, rfl⟩ := hm5.vals; have HM5 := Lib.hid hm5; have HC5 := Lib.hid hc5; clear hm5 hc5))
  obtain ⟨w08, hw8e, hx8, h7⟩ := (HH4.out.still (HC5.out.trans' hc6)).beside (.cells #[.int .i64 e.id, .int .i64 e.page, .string e.url, .string e.title, .slice qn mn dn, .slice qp mp dp, .int .i64 e.x, .int .i64 e.y, .int .i64 e.page, .bool false, .bool false, .slice none 0 0] 40)
  have HW8E := Lib.hid (hw8e.trans HW6E.out)
  have HB8 := Lib.hid (alloc_block w6 (.cells #[.int .i64 e.id, .int .i64 e.page, .string e.url, .string e.title, .slice qn mn dn, .slice qp mp dp, .int .i64 e.x, .int .i64 e.y, .int .i64 e.page, .bool false, .bool false, .slice none 0 0] 40))
  have HC57 := Lib.hid (hc6.allocR (.cells #[.int .i64 e.id, .int .i64 e.page, .string e.url, .string e.title, .slice qn mn dn, .slice qp mp dp, .int .i64 e.x, .int .i64 e.y, .int .i64 e.page, .bool false, .bool false, .slice none 0 0] 40))
  have HS5 := Lib.hid HC5.out.size
  have HS56 := Lib.hid hc6.size
  have HS7 := Lib.hid (World.size_alloc w6 (.cells #[.int .i64 e.id, .int .i64 e.page, .string e.url, .string e.title, .slice qn mn dn, .slice qp mp dp, .int .i64 e.x, .int .i64 e.y, .int .i64 e.page, .bool false, .bool false, .slice none 0 0] 40))
  have HH7 := Lib.hid h7
  have HX8 := Lib.hid hx8
  have HCL := Lib.hid (clean_any w08 _ b (navH h url) vl3 vs3 rs3 h7)
  clear h7 hc6 hpg6 hw8e hx8 HCU4
  generalize w6.alloc (.cells #[.int .i64 e.id, .int .i64 e.page, .string e.url, .string e.title, .slice qn mn dn, .slice qp mp dp, .int .i64 e.x, .int .i64 e.y, .int .i64 e.page, .bool false, .bool false, .slice none 0 0] 40) = w7 at *
  generalize hb8 : w6.heap.size = b8 at HB8 HX8 HS7 HS56 ⊢
  have HB8N : Hid (¬ Mut b vl3 vs3 b8) := Lib.hid (fun x => by have := HH4.out.mutLt b8 x; have := HS5.out; have := HS56.out; omega)
  clear hb8
  go_upto_region 6 with (go_at_call 44; refine HCL.out.mono ?_; rintro _ w8 ⟨vo, vs8, rfl, h8, hc8, hsub8, hrow8, hnew8⟩; obtain ⟨ao, co, rfl, -, -⟩ := hrow8.slice; have hb88 := hc8.keep HB8.out HB8N.out; have y0 := cell_of_block (i := 11) hb88 rfl; have yf := frozen_of_block (i := 11) hb88; simp only [List.getElem_toArray, List.getElem_cons_zero, List.getElem_cons_succ] at y0)
  have hb89 := setCell_block (i := 11) (.slice ao (goneL (navH h url) (navH h url).sleeping).length co) hb88
  have hc89 : Chg (fun k => k = b8) w8 (w8.setCell ⟨b8, 11, none⟩ (.slice ao (goneL (navH h url) (navH h url).sleeping).length co)) := Chg.setCell w8 ⟨b8, 11, none⟩ _
  have HS78 := Lib.hid hc8.size
  have h8g := HH7.out.regrow h8 rfl hc8 hsub8 (fun k => w08.X k ∨ (Value.slice ao (goneL (navH h url) (navH h url).sleeping).length co).ownBlock = some k) (fun k x => by
    rcases x with x | x
    · exact ⟨.inl x, h8.xl k x⟩
    · exact ⟨.inr (hnew8 k x), hrow8.lt k x⟩)
  have HX9 : Hid (∀ k, k = b6 ∨ k = b8 ∨ w0.X k → w08.X k) := Lib.hid (fun k x => by
    rcases x with x | x | x
    · exact (HX8.out k).2 (.inl ((HX6.out k).2 (.inr x)))
    · exact (HX8.out k).2 (.inr x)
    · exact (HX8.out k).2 (.inl ((HX6.out k).2 (.inl x))))
  have HB8S : Hid (w0.heap.size ≤ b8 ∧ w.heap.size ≤ b8) := Lib.hid (by have := HB0.out; have := HB6W.out; have := HS1.out; have := HS2.out; have := HS24.out; have := HS5.out; have := HS56.out; omega)
  have h9 := h8g.write hc89 (fun k x => .inl (HX9.out k (.inr (.inl x)))) (fun k x => by show w08.toWorld.heap.size ≤ k; rw [HW8E.out, show k = b8 from x]; exact HB8S.out.1)
  have HB89 : Hid ((w8.setCell ⟨b8, 11, none⟩ (.slice ao (goneL (navH h url) (navH h url).sleeping).length co)).heap[b8]? = some (.cells #[.int .i64 e.id, .int .i64 e.page, .string e.url, .string e.title, .slice qn mn dn, .slice qp mp dp, .int .i64 e.x, .int .i64 e.y, .int .i64 e.page, .bool false, .bool false, .slice ao (goneL (navH h url) (navH h url).sleeping).length co] 40 (0, 0))) := Lib.hid (by simpa using hb89)
  have hb6n : ¬ Mut b vl3 vs3 b6 := fun x => by
    have h1 := HM3.out b6 (by have := HS2.out; have := HS1.out; omega) x
    have := HMLT.out b6 h1
    have := HB6W.out
    omega
  have HB69 := Lib.hid (hc89.keep (hc8.keep (HC57.out.keep (HC5.out.keep HB64.out (fun x => x)) (fun x => x)) hb6n) (fun e => by have := HS5.out; have := HS56.out; have := HS24.out; have := HS2.out; have := HS1.out; omega))
  have HROW := Lib.hid (hrow8.chg hc89 (fun k hk e => by have := hnew8 k hk; have := HS7.out; omega))
  have HNEW := Lib.hid hnew8
  have HSUB := Lib.hid hsub8
  have HC59 := Lib.hid (show Chg (fun k => k < w4.heap.size) w5 _ from ((HC57.out.trans hc8 (fun _ _ x => x.elim) (fun k _ x => HH4.out.mutLt k x)).trans hc89 (fun _ _ x => x) (fun k hk x => by have : k = b8 := x; have := HS56.out; omega)))
  have HCW9 := Lib.hid (show Chg (fun k => Mut b vl vs k ∨ w.heap.size ≤ k) w _ from (((HC4.out.trans ((HC5.out.trans' HC57.out)) (fun _ _ x => .inl x) (fun _ _ x => x.elim)).trans hc8 (fun _ _ x => x) (fun k hk x => .inl (HM3.out k (Nat.lt_of_lt_of_le hk HC2.out.size) x))).trans hc89 (fun _ _ x => x) (fun k _ x => .inr (by have : k = b8 := x; have := HB8S.out; omega))))
  have HS89 := Lib.hid hc89.size
  have HH9 := Lib.hid h9
  have HSH := Lib.hid (shown_any _ _ b (cleanM (navH h url)) vl3 vs8 rs3 h9 old)
  have hsp : (cleanM (navH h url)).list.any (fun e => e.page == old) = shownP (navH h url) old := rfl
  rw [hsp] at HSH
  have HGL : Hid ((goneL (navH h url) (navH h url).sleeping).length ≤ 900) := Lib.hid (Nat.le_trans (goneL_le _ _) HSL.out)
  have HKL : Hid ((cleanM (navH h url)).sleeping.length ≤ 900) := Lib.hid (Nat.le_trans (keptL_le _ _) HSL.out)
  have HW9E : Hid (w08.toWorld = w0.toWorld) := HW8E
  clear hb89 hc89 h8 hc8 hsub8 hrow8 hnew8 h8g h9 hb88 y0 yf hsp hb6n HB8 HH7 HB64
  have HVG : Hid (goneL (navH h url) h.sleeping = goneL (navH h url) (navH h url).sleeping) := Lib.hid rfl
  generalize goneL (navH h url) (navH h url).sleeping = gone at *
  generalize w8.setCell ⟨b8, 11, none⟩ (.slice ao gone.length co) = w9 at *
  generalize hq : shownP (navH h url) old = q at HSH
  have HQ := Lib.hid hq
  clear hq
  cases keep with
  | false =>
    have HS' : Hid (navS h url false = false) := Lib.hid (by unfold navS; simp)
    have HV : Hid (navV h url false = ⟨e, e.page, false, false, sorted (gone ++ [old])⟩) := Lib.hid (by unfold navV; rw [HS'.out, HCE.out, HVG.out, HOLD.out]; rfl)
    have HN : Hid (navM h url false = cleanM (navH h url)) := Lib.hid (by unfold navM; rw [HS'.out]; rfl)
    go_upto_region 9 with fail
    have HC10 := Lib.hid (Chg.refl (fun _ => False) w9)
    have hb8a := HC10.out.keep HB89.out (fun x => x)
    have y0 := cell_of_block (i := 11) hb8a rfl
    simp only [List.getElem_toArray, List.getElem_cons_zero, List.getElem_cons_succ] at y0
    have HB8A := Lib.hid hb8a
    clear hb8a
    have HVB : Hid (¬ (Value.slice ao gone.length co).ownBlock = some b8) := Lib.hid (fun x => by have := HNEW.out b8 x; have := HS7.out; omega)
    have HV6 : Hid (¬ (Value.slice ao gone.length co).ownBlock = some b6) := Lib.hid (fun x => by have := HNEW.out b6 x; have := HS7.out; have := HS5.out; have := HS56.out; have := HS24.out; have := HS2.out; have := HS1.out; omega)
    have FR : Hid (∀ W1, Chg (fun k => (Value.slice ao gone.length co).ownBlock = some k) (w9.alloc (.cells #[.int .i64 old] 3)) W1 → W1.heap[b8]? = some (.cells #[.int .i64 e.id, .int .i64 e.page, .string e.url, .string e.title, .slice qn mn dn, .slice qp mp dp, .int .i64 e.x, .int .i64 e.y, .int .i64 e.page, .bool false, .bool false, .slice ao gone.length co] 40 (0, 0))) := Lib.hid (fun W1 hc => hc.keep ((Chg.alloc (fun _ => False) w9 _).keep HB8A.out (fun x => x)) HVB.out)
    have HROWA := Lib.hid (HROW.out.chg HC10.out (fun _ _ x => x))
    go_upto_region 10 with (at_builtin; refine wpList_outR rfl (.tmp 47) (.tmp 49) rfl _ gone rfl (HROWA.out.alloc _) _ [old] rfl (RowAt.lit [.int .i64 old] rfl (by simp [maxLen])) (⟨by have := HGL.out; simp only [List.length_cons, List.length_nil]; omega⟩ : Few _) ?_; intro a2 n2 c2 w11 hrow11 hch11 hold11; have hb8b := FR.out w11 hch11; have y2 := cell_of_block (i := 11) hb8b rfl; have yf2 := frozen_of_block (i := 11) hb8b; simp only [List.getElem_toArray, List.getElem_cons_zero, List.getElem_cons_succ] at y2)
    have hS10 := World.size_alloc w9 (.cells #[.int .i64 old] 3)
    have hold : ∀ k, (Value.slice a2 n2 c2).ownBlock = some k → (Value.slice ao gone.length co).ownBlock = some k ∨ w9.heap.size ≤ k := fun k hk => (hold11 k hk).imp id (fun y => by rw [World.size_alloc] at y; omega)
    have hc1011 : Chg (fun k => (Value.slice ao gone.length co).ownBlock = some k) w9 w11 := (Chg.alloc (fun _ => False) w9 (.cells #[.int .i64 old] 3)).trans hch11 (fun _ _ x => x.elim) (fun _ _ x => x)
    have hb8w : b8 < w9.heap.size := lt_of_block HB8A.out
    have hb6w : b6 < w9.heap.size := by have := HS5.out; have := HS56.out; have := HS24.out; have := HS2.out; have := HS1.out; omega
    have ha8 : ¬ (Value.slice a2 n2 c2).ownBlock = some b8 := fun x => (hold b8 x).elim HVB.out (fun y => by omega)
    have ha6 : ¬ (Value.slice a2 n2 c2).ownBlock = some b6 := fun x => (hold b6 x).elim HV6.out (fun y => by omega)
    have hcs12 : Chg (fun k => k = b8) w11 (w11.setCell ⟨b8, 11, none⟩ (.slice a2 n2 c2)) := Chg.setCell w11 ⟨b8, 11, none⟩ _
    have hb812 := setCell_block (i := 11) (.slice a2 n2 c2) hb8b
    have HB812 : Hid ((w11.setCell ⟨b8, 11, none⟩ (.slice a2 n2 c2)).heap[b8]? = some (.cells #[.int .i64 e.id, .int .i64 e.page, .string e.url, .string e.title, .slice qn mn dn, .slice qp mp dp, .int .i64 e.x, .int .i64 e.y, .int .i64 e.page, .bool false, .bool false, .slice a2 n2 c2] 40 (0, 0))) := Lib.hid (by simpa using hb812)
    have hrow12 := hrow11.chg hcs12 (fun k hk x => ha8 (x ▸ hk))
    have HSO := Lib.hid (sortRow _ _ (gone ++ [old]) hrow12 ⟨by rw [List.length_append]; simp only [List.length_cons, List.length_nil]; have := HGL.out; omega⟩)
    have HC1012 := Lib.hid (hc1011.trans hcs12 (fun k _ x => (.inl x : (Value.slice ao gone.length co).ownBlock = some k ∨ k = b8)) (fun k _ x => .inr x))
    have HB612 := Lib.hid (hcs12.keep (hc1011.keep (HC10.out.keep HB69.out (fun x => x)) HV6.out) (fun e => by have := HS5.out; have := HS56.out; have := HS24.out; have := HS2.out; have := HS1.out; omega))
    have HOLD2 := Lib.hid hold
    have HA8 := Lib.hid ha8
    have HA6 := Lib.hid ha6
    clear hS10 hold hc1011 ha8 ha6 hcs12 hb812 hrow12 hrow11 hch11 hold11 hb8b y2 yf2 y0 FR hb8w hb6w
    generalize w11.setCell ⟨b8, 11, none⟩ (.slice a2 n2 c2) = w12 at *
    have hb8c := HB812.out
    have y3 := cell_of_block (i := 11) hb8c rfl
    simp only [List.getElem_toArray, List.getElem_cons_zero, List.getElem_cons_succ] at y3
    clear hb8c
    go_upto_region 11 with (go_at_call 46; refine HSO.out.mono ?_; rintro _ w13 ⟨rfl, hrow13, hch13⟩)
    clear y3
    have HB8X := Lib.hid (hch13.keep HB812.out HA8.out)
    have HB6X := Lib.hid (hch13.keep HB612.out HA6.out)
    have hown : ∀ k, (Value.slice ao gone.length co).ownBlock = some k → b8 < k := fun k x => by have := HNEW.out k x; have := HS7.out; omega
    have h1013 : Chg (fun k => ((Value.slice ao gone.length co).ownBlock = some k ∨ k = b8) ∨ (Value.slice a2 n2 c2).ownBlock = some k) w9 w13 := HC1012.out.trans hch13 (fun k _ x => .inl x) (fun k _ x => .inr x)
    have hge : ∀ k, ((Value.slice ao gone.length co).ownBlock = some k ∨ k = b8) ∨ (Value.slice a2 n2 c2).ownBlock = some k → b8 ≤ k := fun k x => by
      rcases x with (x | x) | x
      · have := hown k x; omega
      · omega
      · rcases HOLD2.out k x with y | y
        · have := hown k y; omega
        · have := lt_of_block HB8A.out; omega
    have HH12 := Lib.hid (((HH9.out.still HC10.out).grow h1013 (fun k hk x => by
      rcases x with (x | x) | x
      · exact .inr x
      · exact .inl (HX9.out k (.inr (.inl x)))
      · rcases HOLD2.out k x with y | y
        · exact .inr y
        · omega) (fun k x => by show w08.toWorld.heap.size ≤ k; rw [HW8E.out]; have := HB8S.out.1; have := hge k x; omega) w08.X (fun k x => ⟨.inl (.inl x), Nat.lt_of_lt_of_le ((HH9.out.still HC10.out).xl k (.inl x)) h1013.size⟩)))
    have HC5E := Lib.hid ((HC59.out.trans HC10.out (fun _ _ x => x) (fun _ _ x => x.elim)).trans h1013 (fun _ _ x => x) (fun k hk x => by have := hge k x; have := HS56.out; omega))
    have HMU : Hid (∀ k, k < w5.heap.size → Mut b vl3 vs8 k → k < w4.heap.size) := Lib.hid (fun k _ x => HH4.out.mutLt k (HSUB.out k x))
    have HMW : Hid (∀ k, k < w.heap.size → Mut b vl3 vs8 k → Mut b vl vs k) := Lib.hid (fun k hk x => HM3.out k (Nat.lt_of_lt_of_le hk HC2.out.size) (HSUB.out k x))
    have HCW := Lib.hid ((HCW9.out.trans HC10.out (fun _ _ x => x) (fun _ _ x => x.elim)).trans h1013 (fun _ _ x => x) (fun k _ x => .inr (by have := hge k x; have := HB8S.out.2; omega)))
    have HROWX := Lib.hid hrow13
    have HOWN : Hid (∀ k, (Value.slice a2 n2 c2).ownBlock = some k → b8 ≤ k) := Lib.hid (fun k x => hge k (.inr x))
    clear hrow13 hch13 hown h1013 hge

    have hb6e := HB6X.out
    have hb8e := HB8X.out
    have l0 := cell_of_block (i := 0) hb8e rfl
    have l1 := cell_of_block (i := 1) hb8e rfl
    have l2 := cell_of_block (i := 2) hb8e rfl
    have l3 := cell_of_block (i := 3) hb8e rfl
    have l4 := cell_of_block (i := 4) hb8e rfl
    have l5 := cell_of_block (i := 5) hb8e rfl
    have l6 := cell_of_block (i := 6) hb8e rfl
    have l7 := cell_of_block (i := 7) hb8e rfl
    have l8 := cell_of_block (i := 8) hb8e rfl
    have l9 := cell_of_block (i := 9) hb8e rfl
    have l10 := cell_of_block (i := 10) hb8e rfl
    have l11 := cell_of_block (i := 11) hb8e rfl
    simp only [List.getElem_toArray, List.getElem_cons_zero, List.getElem_cons_succ] at l0 l1 l2 l3 l4 l5 l6 l7 l8 l9 l10 l11
    obtain ⟨z0, q0, z1, q1, z2, q2, z3, q3, z4, q4, z5, q5, z6, q6, z7, q7, z8, q8, z9, q9, z10, q10, z11, q11, hbf, hcs⟩ := store12 hb6e (.int .i64 e.id) (.int .i64 e.page) (.string e.url) (.string e.title) (.slice qn mn dn) (.slice qp mp dp) (.int .i64 e.x) (.int .i64 e.y) (.int .i64 e.page) (.bool false) (.bool false) (.slice a2 n2 c2)
    have HCS := Lib.hid hcs
    clear hcs hb6e hb8e
    go_wp2_with fail
    generalize ((((((((((((w13.setCell ⟨b6, 0, none⟩ (.int .i64 e.id)).setCell ⟨b6, 1, none⟩ (.int .i64 e.page)).setCell ⟨b6, 2, none⟩ (.string e.url)).setCell ⟨b6, 3, none⟩ (.string e.title)).setCell ⟨b6, 4, none⟩ (.slice qn mn dn)).setCell ⟨b6, 5, none⟩ (.slice qp mp dp)).setCell ⟨b6, 6, none⟩ (.int .i64 e.x)).setCell ⟨b6, 7, none⟩ (.int .i64 e.y)).setCell ⟨b6, 8, none⟩ (.int .i64 e.page)).setCell ⟨b6, 9, none⟩ (.bool false)).setCell ⟨b6, 10, none⟩ (.bool false)).setCell ⟨b6, 11, none⟩ (.slice a2 n2 c2)) = wz at *
    refine bodyPost_ret (results_cell_row rfl _ _ b6 _ _ _ _ (by rfl) hbf Tryd.underlying40 rfl (by kernel_rfl)) rfl ?_
    rw [HV.out, HN.out]
    have hb6n : ∀ k, k = b6 → w0.heap.size ≤ k ∧ k < w4.heap.size ∧ w.heap.size ≤ k := fun k e => by
      have := HB6W.out
      have := HB0.out
      have := HS24.out
      have := HS2.out
      have := HS1.out
      omega
    have hms : MsgAt (fun k => k < w.heap.size ∨ Mut b vl3 vs8 k) wz (.slice qn mn dn) (.slice qp mp dp) e.msg := by
      refine HM5.out.chg (HC5E.out.trans HCS.out (fun k _ x => x) (fun k _ x => (hb6n k x).2.1)) (fun k _ x => x) (fun k hk x => ?_)
      rcases x with x | x
      · have := HS2.out
        have := HS24.out
        have := HS1.out
        have := HB6W.out
        show k < w4.heap.size
        omega
      · exact HMU.out k hk x
    refine ⟨_, rfl, vl3, vs8, rs3, ?_, ?_, HMW.out, .slice qn mn dn, .slice qp mp dp, .slice a2 n2 c2, rfl, hms, ?_, ?_⟩
    · refine (HH12.out.write HCS.out (fun k x => HX9.out k (.inl x)) (fun k x => ?_)).shrink HW9E.out (fun k x => HX9.out k (.inr (.inr x)))
      show w08.toWorld.heap.size ≤ k
      rw [HW9E.out]
      exact (hb6n k x).1
    · exact (HCW.out.trans HCS.out (fun k _ x => x) (fun k _ x => .inr (hb6n k x).2.2)).mono (fun k hk x => x.elim id (fun y => by omega))
    · exact HROWX.out.chg HCS.out (fun k hk x => HA6.out (x ▸ hk))
    · intro k hk x
      have h1 := HOWN.out k hk
      rcases x with x | x
      · have := HB8S.out.2; omega
      · have := HH4.out.mutLt k (HSUB.out k x); have := HS5.out; have := HS56.out; omega
  | true =>
    cases q with
    | false =>
      have HS' : Hid (navS h url true = false) := Lib.hid (by unfold navS; rw [HOLD.out, HQ.out]; rfl)
      have HV : Hid (navV h url true = ⟨e, e.page, false, false, sorted (gone ++ [old])⟩) := Lib.hid (by unfold navV; rw [HS'.out, HCE.out, HVG.out, HOLD.out]; rfl)
      have HN : Hid (navM h url true = cleanM (navH h url)) := Lib.hid (by unfold navM; rw [HS'.out]; rfl)
      go_upto_region 9 with (go_at_call 45; refine HSH.out.mono ?_; rintro _ w10 ⟨rfl, hc10⟩)
      have HC10 := Lib.hid hc10
      clear hc10
      have hb8a := HC10.out.keep HB89.out (fun x => x)
      have y0 := cell_of_block (i := 11) hb8a rfl
      simp only [List.getElem_toArray, List.getElem_cons_zero, List.getElem_cons_succ] at y0
      have HB8A := Lib.hid hb8a
      clear hb8a
      have HVB : Hid (¬ (Value.slice ao gone.length co).ownBlock = some b8) := Lib.hid (fun x => by have := HNEW.out b8 x; have := HS7.out; omega)
      have HV6 : Hid (¬ (Value.slice ao gone.length co).ownBlock = some b6) := Lib.hid (fun x => by have := HNEW.out b6 x; have := HS7.out; have := HS5.out; have := HS56.out; have := HS24.out; have := HS2.out; have := HS1.out; omega)
      have FR : Hid (∀ W1, Chg (fun k => (Value.slice ao gone.length co).ownBlock = some k) (w10.alloc (.cells #[.int .i64 old] 3)) W1 → W1.heap[b8]? = some (.cells #[.int .i64 e.id, .int .i64 e.page, .string e.url, .string e.title, .slice qn mn dn, .slice qp mp dp, .int .i64 e.x, .int .i64 e.y, .int .i64 e.page, .bool false, .bool false, .slice ao gone.length co] 40 (0, 0))) := Lib.hid (fun W1 hc => hc.keep ((Chg.alloc (fun _ => False) w10 _).keep HB8A.out (fun x => x)) HVB.out)
      have HROWA := Lib.hid (HROW.out.chg HC10.out (fun _ _ x => x))
      go_upto_region 10 with (at_builtin; refine wpList_outR rfl (.tmp 47) (.tmp 49) rfl _ gone rfl (HROWA.out.alloc _) _ [old] rfl (RowAt.lit [.int .i64 old] rfl (by simp [maxLen])) (⟨by have := HGL.out; simp only [List.length_cons, List.length_nil]; omega⟩ : Few _) ?_; intro a2 n2 c2 w11 hrow11 hch11 hold11; have hb8b := FR.out w11 hch11; have y2 := cell_of_block (i := 11) hb8b rfl; have yf2 := frozen_of_block (i := 11) hb8b; simp only [List.getElem_toArray, List.getElem_cons_zero, List.getElem_cons_succ] at y2)
      have hS10 := World.size_alloc w10 (.cells #[.int .i64 old] 3)
      have hold : ∀ k, (Value.slice a2 n2 c2).ownBlock = some k → (Value.slice ao gone.length co).ownBlock = some k ∨ w10.heap.size ≤ k := fun k hk => (hold11 k hk).imp id (fun y => by rw [World.size_alloc] at y; omega)
      have hc1011 : Chg (fun k => (Value.slice ao gone.length co).ownBlock = some k) w10 w11 := (Chg.alloc (fun _ => False) w10 (.cells #[.int .i64 old] 3)).trans hch11 (fun _ _ x => x.elim) (fun _ _ x => x)
      have hb8w : b8 < w10.heap.size := lt_of_block HB8A.out
      have hb6w : b6 < w10.heap.size := by have := HS5.out; have := HS56.out; have := HS24.out; have := HS2.out; have := HS1.out; omega
      have ha8 : ¬ (Value.slice a2 n2 c2).ownBlock = some b8 := fun x => (hold b8 x).elim HVB.out (fun y => by omega)
      have ha6 : ¬ (Value.slice a2 n2 c2).ownBlock = some b6 := fun x => (hold b6 x).elim HV6.out (fun y => by omega)
      have hcs12 : Chg (fun k => k = b8) w11 (w11.setCell ⟨b8, 11, none⟩ (.slice a2 n2 c2)) := Chg.setCell w11 ⟨b8, 11, none⟩ _
      have hb812 := setCell_block (i := 11) (.slice a2 n2 c2) hb8b
      have HB812 : Hid ((w11.setCell ⟨b8, 11, none⟩ (.slice a2 n2 c2)).heap[b8]? = some (.cells #[.int .i64 e.id, .int .i64 e.page, .string e.url, .string e.title, .slice qn mn dn, .slice qp mp dp, .int .i64 e.x, .int .i64 e.y, .int .i64 e.page, .bool false, .bool false, .slice a2 n2 c2] 40 (0, 0))) := Lib.hid (by simpa using hb812)
      have hrow12 := hrow11.chg hcs12 (fun k hk x => ha8 (x ▸ hk))
      have HSO := Lib.hid (sortRow _ _ (gone ++ [old]) hrow12 ⟨by rw [List.length_append]; simp only [List.length_cons, List.length_nil]; have := HGL.out; omega⟩)
      have HC1012 := Lib.hid (hc1011.trans hcs12 (fun k _ x => (.inl x : (Value.slice ao gone.length co).ownBlock = some k ∨ k = b8)) (fun k _ x => .inr x))
      have HB612 := Lib.hid (hcs12.keep (hc1011.keep (HC10.out.keep HB69.out (fun x => x)) HV6.out) (fun e => by have := HS5.out; have := HS56.out; have := HS24.out; have := HS2.out; have := HS1.out; omega))
      have HOLD2 := Lib.hid hold
      have HA8 := Lib.hid ha8
      have HA6 := Lib.hid ha6
      clear hS10 hold hc1011 ha8 ha6 hcs12 hb812 hrow12 hrow11 hch11 hold11 hb8b y2 yf2 y0 FR hb8w hb6w
      generalize w11.setCell ⟨b8, 11, none⟩ (.slice a2 n2 c2) = w12 at *
      have hb8c := HB812.out
      have y3 := cell_of_block (i := 11) hb8c rfl
      simp only [List.getElem_toArray, List.getElem_cons_zero, List.getElem_cons_succ] at y3
      clear hb8c
      go_upto_region 11 with (go_at_call 46; refine HSO.out.mono ?_; rintro _ w13 ⟨rfl, hrow13, hch13⟩)
      clear y3
      have HB8X := Lib.hid (hch13.keep HB812.out HA8.out)
      have HB6X := Lib.hid (hch13.keep HB612.out HA6.out)
      have hown : ∀ k, (Value.slice ao gone.length co).ownBlock = some k → b8 < k := fun k x => by have := HNEW.out k x; have := HS7.out; omega
      have h1013 : Chg (fun k => ((Value.slice ao gone.length co).ownBlock = some k ∨ k = b8) ∨ (Value.slice a2 n2 c2).ownBlock = some k) w10 w13 := HC1012.out.trans hch13 (fun k _ x => .inl x) (fun k _ x => .inr x)
      have hge : ∀ k, ((Value.slice ao gone.length co).ownBlock = some k ∨ k = b8) ∨ (Value.slice a2 n2 c2).ownBlock = some k → b8 ≤ k := fun k x => by
        rcases x with (x | x) | x
        · have := hown k x; omega
        · omega
        · rcases HOLD2.out k x with y | y
          · have := hown k y; omega
          · have := lt_of_block HB8A.out; omega
      have HH12 := Lib.hid (((HH9.out.still HC10.out).grow h1013 (fun k hk x => by
        rcases x with (x | x) | x
        · exact .inr x
        · exact .inl (HX9.out k (.inr (.inl x)))
        · rcases HOLD2.out k x with y | y
          · exact .inr y
          · omega) (fun k x => by show w08.toWorld.heap.size ≤ k; rw [HW8E.out]; have := HB8S.out.1; have := hge k x; omega) w08.X (fun k x => ⟨.inl (.inl x), Nat.lt_of_lt_of_le ((HH9.out.still HC10.out).xl k (.inl x)) h1013.size⟩)))
      have HC5E := Lib.hid ((HC59.out.trans HC10.out (fun _ _ x => x) (fun _ _ x => x.elim)).trans h1013 (fun _ _ x => x) (fun k hk x => by have := hge k x; have := HS56.out; omega))
      have HMU : Hid (∀ k, k < w5.heap.size → Mut b vl3 vs8 k → k < w4.heap.size) := Lib.hid (fun k _ x => HH4.out.mutLt k (HSUB.out k x))
      have HMW : Hid (∀ k, k < w.heap.size → Mut b vl3 vs8 k → Mut b vl vs k) := Lib.hid (fun k hk x => HM3.out k (Nat.lt_of_lt_of_le hk HC2.out.size) (HSUB.out k x))
      have HCW := Lib.hid ((HCW9.out.trans HC10.out (fun _ _ x => x) (fun _ _ x => x.elim)).trans h1013 (fun _ _ x => x) (fun k _ x => .inr (by have := hge k x; have := HB8S.out.2; omega)))
      have HROWX := Lib.hid hrow13
      have HOWN : Hid (∀ k, (Value.slice a2 n2 c2).ownBlock = some k → b8 ≤ k) := Lib.hid (fun k x => hge k (.inr x))
      clear hrow13 hch13 hown h1013 hge

      have hb6e := HB6X.out
      have hb8e := HB8X.out
      have l0 := cell_of_block (i := 0) hb8e rfl
      have l1 := cell_of_block (i := 1) hb8e rfl
      have l2 := cell_of_block (i := 2) hb8e rfl
      have l3 := cell_of_block (i := 3) hb8e rfl
      have l4 := cell_of_block (i := 4) hb8e rfl
      have l5 := cell_of_block (i := 5) hb8e rfl
      have l6 := cell_of_block (i := 6) hb8e rfl
      have l7 := cell_of_block (i := 7) hb8e rfl
      have l8 := cell_of_block (i := 8) hb8e rfl
      have l9 := cell_of_block (i := 9) hb8e rfl
      have l10 := cell_of_block (i := 10) hb8e rfl
      have l11 := cell_of_block (i := 11) hb8e rfl
      simp only [List.getElem_toArray, List.getElem_cons_zero, List.getElem_cons_succ] at l0 l1 l2 l3 l4 l5 l6 l7 l8 l9 l10 l11
      obtain ⟨z0, q0, z1, q1, z2, q2, z3, q3, z4, q4, z5, q5, z6, q6, z7, q7, z8, q8, z9, q9, z10, q10, z11, q11, hbf, hcs⟩ := store12 hb6e (.int .i64 e.id) (.int .i64 e.page) (.string e.url) (.string e.title) (.slice qn mn dn) (.slice qp mp dp) (.int .i64 e.x) (.int .i64 e.y) (.int .i64 e.page) (.bool false) (.bool false) (.slice a2 n2 c2)
      have HCS := Lib.hid hcs
      clear hcs hb6e hb8e
      go_wp2_with fail
      generalize ((((((((((((w13.setCell ⟨b6, 0, none⟩ (.int .i64 e.id)).setCell ⟨b6, 1, none⟩ (.int .i64 e.page)).setCell ⟨b6, 2, none⟩ (.string e.url)).setCell ⟨b6, 3, none⟩ (.string e.title)).setCell ⟨b6, 4, none⟩ (.slice qn mn dn)).setCell ⟨b6, 5, none⟩ (.slice qp mp dp)).setCell ⟨b6, 6, none⟩ (.int .i64 e.x)).setCell ⟨b6, 7, none⟩ (.int .i64 e.y)).setCell ⟨b6, 8, none⟩ (.int .i64 e.page)).setCell ⟨b6, 9, none⟩ (.bool false)).setCell ⟨b6, 10, none⟩ (.bool false)).setCell ⟨b6, 11, none⟩ (.slice a2 n2 c2)) = wz at *
      refine bodyPost_ret (results_cell_row rfl _ _ b6 _ _ _ _ (by rfl) hbf Tryd.underlying40 rfl (by kernel_rfl)) rfl ?_
      rw [HV.out, HN.out]
      have hb6n : ∀ k, k = b6 → w0.heap.size ≤ k ∧ k < w4.heap.size ∧ w.heap.size ≤ k := fun k e => by
        have := HB6W.out
        have := HB0.out
        have := HS24.out
        have := HS2.out
        have := HS1.out
        omega
      have hms : MsgAt (fun k => k < w.heap.size ∨ Mut b vl3 vs8 k) wz (.slice qn mn dn) (.slice qp mp dp) e.msg := by
        refine HM5.out.chg (HC5E.out.trans HCS.out (fun k _ x => x) (fun k _ x => (hb6n k x).2.1)) (fun k _ x => x) (fun k hk x => ?_)
        rcases x with x | x
        · have := HS2.out
          have := HS24.out
          have := HS1.out
          have := HB6W.out
          show k < w4.heap.size
          omega
        · exact HMU.out k hk x
      refine ⟨_, rfl, vl3, vs8, rs3, ?_, ?_, HMW.out, .slice qn mn dn, .slice qp mp dp, .slice a2 n2 c2, rfl, hms, ?_, ?_⟩
      · refine (HH12.out.write HCS.out (fun k x => HX9.out k (.inl x)) (fun k x => ?_)).shrink HW9E.out (fun k x => HX9.out k (.inr (.inr x)))
        show w08.toWorld.heap.size ≤ k
        rw [HW9E.out]
        exact (hb6n k x).1
      · exact (HCW.out.trans HCS.out (fun k _ x => x) (fun k _ x => .inr (hb6n k x).2.2)).mono (fun k hk x => x.elim id (fun y => by omega))
      · exact HROWX.out.chg HCS.out (fun k hk x => HA6.out (x ▸ hk))
      · intro k hk x
        have h1 := HOWN.out k hk
        rcases x with x | x
        · have := HB8S.out.2; omega
        · have := HH4.out.mutLt k (HSUB.out k x); have := HS5.out; have := HS56.out; omega
    | true =>
      have HS' : Hid (navS h url true = true) := Lib.hid (by unfold navS; rw [HOLD.out, HQ.out]; rfl)
      have HV : Hid (navV h url true = ⟨e, e.page, false, true, gone⟩) := Lib.hid (by unfold navV; rw [HS'.out, HCE.out, HVG.out]; rfl)
      have HN : Hid (navM h url true = sleepM (cleanM (navH h url)) old) := Lib.hid (by unfold navM; rw [HS'.out, HOLD.out]; rfl)
      go_upto_region 7 with (go_at_call 45; refine HSH.out.mono ?_; rintro _ w10 ⟨rfl, hc10⟩)
      have HC10 := Lib.hid hc10
      have hb8a := hc10.keep HB89.out (fun x => x)
      have y0 := cell_of_block (i := 10) hb8a rfl
      have yf := frozen_of_block (i := 10) hb8a
      simp only [List.getElem_toArray, List.getElem_cons_zero, List.getElem_cons_succ] at y0
      clear hc10
      go_upto_region 8 with fail
      have hb8b := setCell_block (i := 10) (.bool true) hb8a
      have hcs11 : Chg (fun k => k = b8) w10 (w10.setCell ⟨b8, 10, none⟩ (.bool true)) := Chg.setCell w10 ⟨b8, 10, none⟩ _
      have h11 := (HH9.out.still HC10.out).write hcs11 (fun k x => .inl (HX9.out k (.inr (.inl x)))) (fun k x => by show w08.toWorld.heap.size ≤ k; rw [HW8E.out, show k = b8 from x]; exact HB8S.out.1)
      have HB811 : Hid ((w10.setCell ⟨b8, 10, none⟩ (.bool true)).heap[b8]? = some (.cells #[.int .i64 e.id, .int .i64 e.page, .string e.url, .string e.title, .slice qn mn dn, .slice qp mp dp, .int .i64 e.x, .int .i64 e.y, .int .i64 e.page, .bool false, .bool true, .slice ao gone.length co] 40 (0, 0))) := Lib.hid (by simpa using hb8b)
      have HC911 := Lib.hid (HC10.out.trans hcs11 (fun _ _ x => x.elim) (fun k _ x => x))
      have HSLP := Lib.hid (sleep_any _ _ b (cleanM (navH h url)) vl3 vs8 rs3 h11 old (by have := HKL.out; omega))
      have HROW11 := Lib.hid ((HROW.out.chg HC10.out (fun _ _ x => x)).chg hcs11 (fun k hk x => by have := HNEW.out k hk; have := HS7.out; have : k = b8 := x; omega))
      have HB611 := Lib.hid (hcs11.keep (HC10.out.keep HB69.out (fun x => x)) (fun e => by have := HS5.out; have := HS56.out; have := HS24.out; have := HS2.out; have := HS1.out; omega))
      have HH11 := Lib.hid h11
      clear hb8a hb8b hcs11 h11 y0 yf
      generalize w10.setCell ⟨b8, 10, none⟩ (.bool true) = w11 at *
      go_upto_region 11 with (go_at_call 41; refine HSLP.out.mono ?_; rintro _ w12 ⟨rfl, vl12, vs12, rs12, h12, hc12, hm12⟩)
      have HM8 : Hid (∀ k, Mut b vl3 vs8 k → k < w4.heap.size) := Lib.hid (fun k x => HH4.out.mutLt k (HSUB.out k x))
      have HB8X := Lib.hid (hc12.keep HB811.out (fun x => by have := HM8.out b8 x; have := HS5.out; have := HS56.out; omega))
      have HB6X := Lib.hid (hc12.keep HB611.out (fun x => by
        have h1 := HM3.out b6 (by have := HS2.out; have := HS1.out; omega) (HSUB.out b6 x)
        have := HMLT.out b6 h1
        have := HB6W.out
        omega))
      have HH12 := Lib.hid (h12.shrink (w0 := ⟨w08, w08.X⟩) rfl (fun k x => .inl x))
      have HC5E := Lib.hid ((HC59.out.trans HC911.out (fun _ _ x => x) (fun k hk x => by have : k = b8 := x; have := HS56.out; omega)).trans hc12 (fun _ _ x => x) (fun k hk x => HM8.out k x))
      have hs911 : w5.heap.size ≤ w11.heap.size := Nat.le_trans HC59.out.size HC911.out.size
      have HMU : Hid (∀ k, k < w5.heap.size → Mut b vl12 vs12 k → k < w4.heap.size) := Lib.hid (fun k hk x => HM8.out k (hm12 k (by omega) x))
      have HMW : Hid (∀ k, k < w.heap.size → Mut b vl12 vs12 k → Mut b vl vs k) := Lib.hid (fun k hk x => HM3.out k (Nat.lt_of_lt_of_le hk HC2.out.size) (HSUB.out k (hm12 k (by have := HCW9.out.size; have := HC911.out.size; omega) x)))
      have HCW := Lib.hid ((HCW9.out.trans HC911.out (fun _ _ x => x) (fun k _ x => .inr (by have : k = b8 := x; have := HB8S.out.2; omega))).trans hc12 (fun _ _ x => x) (fun k hk x => .inl (HM3.out k (Nat.lt_of_lt_of_le hk HC2.out.size) (HSUB.out k x))))
      have HROWX := Lib.hid (HROW11.out.chg hc12 (fun k hk x => by have := HNEW.out k hk; have := HS7.out; have := HM8.out k x; have := HS5.out; have := HS56.out; omega))
      have HM12 := Lib.hid hm12
      clear h12 hc12 hm12 hs911

      have hb6e := HB6X.out
      have hb8e := HB8X.out
      have l0 := cell_of_block (i := 0) hb8e rfl
      have l1 := cell_of_block (i := 1) hb8e rfl
      have l2 := cell_of_block (i := 2) hb8e rfl
      have l3 := cell_of_block (i := 3) hb8e rfl
      have l4 := cell_of_block (i := 4) hb8e rfl
      have l5 := cell_of_block (i := 5) hb8e rfl
      have l6 := cell_of_block (i := 6) hb8e rfl
      have l7 := cell_of_block (i := 7) hb8e rfl
      have l8 := cell_of_block (i := 8) hb8e rfl
      have l9 := cell_of_block (i := 9) hb8e rfl
      have l10 := cell_of_block (i := 10) hb8e rfl
      have l11 := cell_of_block (i := 11) hb8e rfl
      simp only [List.getElem_toArray, List.getElem_cons_zero, List.getElem_cons_succ] at l0 l1 l2 l3 l4 l5 l6 l7 l8 l9 l10 l11
      obtain ⟨z0, q0, z1, q1, z2, q2, z3, q3, z4, q4, z5, q5, z6, q6, z7, q7, z8, q8, z9, q9, z10, q10, z11, q11, hbf, hcs⟩ := store12 hb6e (.int .i64 e.id) (.int .i64 e.page) (.string e.url) (.string e.title) (.slice qn mn dn) (.slice qp mp dp) (.int .i64 e.x) (.int .i64 e.y) (.int .i64 e.page) (.bool false) (.bool true) (.slice ao gone.length co)
      have HCS := Lib.hid hcs
      clear hcs hb6e hb8e
      go_wp2_with fail
      generalize ((((((((((((w12.setCell ⟨b6, 0, none⟩ (.int .i64 e.id)).setCell ⟨b6, 1, none⟩ (.int .i64 e.page)).setCell ⟨b6, 2, none⟩ (.string e.url)).setCell ⟨b6, 3, none⟩ (.string e.title)).setCell ⟨b6, 4, none⟩ (.slice qn mn dn)).setCell ⟨b6, 5, none⟩ (.slice qp mp dp)).setCell ⟨b6, 6, none⟩ (.int .i64 e.x)).setCell ⟨b6, 7, none⟩ (.int .i64 e.y)).setCell ⟨b6, 8, none⟩ (.int .i64 e.page)).setCell ⟨b6, 9, none⟩ (.bool false)).setCell ⟨b6, 10, none⟩ (.bool true)).setCell ⟨b6, 11, none⟩ (.slice ao gone.length co)) = wz at *
      refine bodyPost_ret (results_cell_row rfl _ _ b6 _ _ _ _ (by rfl) hbf Tryd.underlying40 rfl (by kernel_rfl)) rfl ?_
      rw [HV.out, HN.out]
      have hb6n : ∀ k, k = b6 → w0.heap.size ≤ k ∧ k < w4.heap.size ∧ w.heap.size ≤ k := fun k e => by
        have := HB6W.out
        have := HB0.out
        have := HS24.out
        have := HS2.out
        have := HS1.out
        omega
      have hms : MsgAt (fun k => k < w.heap.size ∨ Mut b vl12 vs12 k) wz (.slice qn mn dn) (.slice qp mp dp) e.msg := by
        refine HM5.out.chg (HC5E.out.trans HCS.out (fun k _ x => x) (fun k _ x => (hb6n k x).2.1)) (fun k _ x => x) (fun k hk x => ?_)
        rcases x with x | x
        · have := HS2.out
          have := HS24.out
          have := HS1.out
          have := HB6W.out
          show k < w4.heap.size
          omega
        · exact HMU.out k hk x
      refine ⟨_, rfl, vl12, vs12, rs12, ?_, ?_, HMW.out, .slice qn mn dn, .slice qp mp dp, .slice ao gone.length co, rfl, hms, ?_, ?_⟩
      · refine (HH12.out.write HCS.out (fun k x => HX9.out k (.inl x)) (fun k x => ?_)).shrink HW9E.out (fun k x => HX9.out k (.inr (.inr x)))
        show w08.toWorld.heap.size ≤ k
        rw [HW9E.out]
        exact (hb6n k x).1
      · exact (HCW.out.trans HCS.out (fun k _ x => x) (fun k _ x => .inr (hb6n k x).2.2)).mono (fun k hk x => x.elim id (fun y => by omega))
      · exact HROWX.out.chg HCS.out (fun k hk x => by have := HNEW.out k hk; have := HS7.out; have : k = b6 := x; have := HS5.out; have := HS56.out; have := HS24.out; have := HS2.out; have := HS1.out; omega)
      · intro k hk x
        have h1 := HNEW.out k hk
        rcases x with x | x
        · have := HB8S.out.2; have := HS7.out; omega
        · have h2 := HROW11.out.lt k hk
          have := HM8.out k (HM12.out k h2 x)
          have := HS5.out; have := HS56.out; have := HS7.out; omega
end Go.Proofs.YtiecgbmeobpomaaDoor
