/-
  History.Replace.
  The law's do: one operation.
-/
import Derived.Test.YtiecgbmeobpomaaDoorPHistoryNewj
import Derived.Deep.QuietTactic
import Derived.BigQuiet
import Derived.Test.YtiecgbmeobpomaaDoorPHistoryNewe
namespace Go.Proofs.YtiecgbmeobpomaaDoor
open Go.RowKit
set_option linter.unusedVariables false
set_option linter.unusedSimpArgs false

/-- Eight cells of a row stored one after the other. -/
theorem storeRow8 {w : World} {g T o : Nat} {c : Array Value} (b0 : w.heap[g]? = some (.cells c T (0, 0))) (ho : o + 8 ≤ c.size) (v0 v1 v2 v3 v4 v5 v6 v7 : Value) :
    (∃ u, w.cell? ⟨g, o, none⟩ = some u) ∧ w.frozen? ⟨g, o, none⟩ = false ∧
    (∃ u, (w.setCell ⟨g, o, none⟩ v0).cell? ⟨g, o + 1, none⟩ = some u) ∧ (w.setCell ⟨g, o, none⟩ v0).frozen? ⟨g, o + 1, none⟩ = false ∧
    (∃ u, ((w.setCell ⟨g, o, none⟩ v0).setCell ⟨g, o + 1, none⟩ v1).cell? ⟨g, o + 2, none⟩ = some u) ∧ ((w.setCell ⟨g, o, none⟩ v0).setCell ⟨g, o + 1, none⟩ v1).frozen? ⟨g, o + 2, none⟩ = false ∧
    (∃ u, (((w.setCell ⟨g, o, none⟩ v0).setCell ⟨g, o + 1, none⟩ v1).setCell ⟨g, o + 2, none⟩ v2).cell? ⟨g, o + 3, none⟩ = some u) ∧ (((w.setCell ⟨g, o, none⟩ v0).setCell ⟨g, o + 1, none⟩ v1).setCell ⟨g, o + 2, none⟩ v2).frozen? ⟨g, o + 3, none⟩ = false ∧
    (∃ u, ((((w.setCell ⟨g, o, none⟩ v0).setCell ⟨g, o + 1, none⟩ v1).setCell ⟨g, o + 2, none⟩ v2).setCell ⟨g, o + 3, none⟩ v3).cell? ⟨g, o + 4, none⟩ = some u) ∧ ((((w.setCell ⟨g, o, none⟩ v0).setCell ⟨g, o + 1, none⟩ v1).setCell ⟨g, o + 2, none⟩ v2).setCell ⟨g, o + 3, none⟩ v3).frozen? ⟨g, o + 4, none⟩ = false ∧
    (∃ u, (((((w.setCell ⟨g, o, none⟩ v0).setCell ⟨g, o + 1, none⟩ v1).setCell ⟨g, o + 2, none⟩ v2).setCell ⟨g, o + 3, none⟩ v3).setCell ⟨g, o + 4, none⟩ v4).cell? ⟨g, o + 5, none⟩ = some u) ∧ (((((w.setCell ⟨g, o, none⟩ v0).setCell ⟨g, o + 1, none⟩ v1).setCell ⟨g, o + 2, none⟩ v2).setCell ⟨g, o + 3, none⟩ v3).setCell ⟨g, o + 4, none⟩ v4).frozen? ⟨g, o + 5, none⟩ = false ∧
    (∃ u, ((((((w.setCell ⟨g, o, none⟩ v0).setCell ⟨g, o + 1, none⟩ v1).setCell ⟨g, o + 2, none⟩ v2).setCell ⟨g, o + 3, none⟩ v3).setCell ⟨g, o + 4, none⟩ v4).setCell ⟨g, o + 5, none⟩ v5).cell? ⟨g, o + 6, none⟩ = some u) ∧ ((((((w.setCell ⟨g, o, none⟩ v0).setCell ⟨g, o + 1, none⟩ v1).setCell ⟨g, o + 2, none⟩ v2).setCell ⟨g, o + 3, none⟩ v3).setCell ⟨g, o + 4, none⟩ v4).setCell ⟨g, o + 5, none⟩ v5).frozen? ⟨g, o + 6, none⟩ = false ∧
    (∃ u, (((((((w.setCell ⟨g, o, none⟩ v0).setCell ⟨g, o + 1, none⟩ v1).setCell ⟨g, o + 2, none⟩ v2).setCell ⟨g, o + 3, none⟩ v3).setCell ⟨g, o + 4, none⟩ v4).setCell ⟨g, o + 5, none⟩ v5).setCell ⟨g, o + 6, none⟩ v6).cell? ⟨g, o + 7, none⟩ = some u) ∧ (((((((w.setCell ⟨g, o, none⟩ v0).setCell ⟨g, o + 1, none⟩ v1).setCell ⟨g, o + 2, none⟩ v2).setCell ⟨g, o + 3, none⟩ v3).setCell ⟨g, o + 4, none⟩ v4).setCell ⟨g, o + 5, none⟩ v5).setCell ⟨g, o + 6, none⟩ v6).frozen? ⟨g, o + 7, none⟩ = false := by
  have b1 := setCell_block (i := o) v0 b0
  have b2 := setCell_block (i := o + 1) v1 b1
  have b3 := setCell_block (i := o + 2) v2 b2
  have b4 := setCell_block (i := o + 3) v3 b3
  have b5 := setCell_block (i := o + 4) v4 b4
  have b6 := setCell_block (i := o + 5) v5 b5
  have b7 := setCell_block (i := o + 6) v6 b6
  have b8 := setCell_block (i := o + 7) v7 b7
  refine ⟨⟨_, cell_of_block b0 (Array.getElem?_eq_getElem (by (try simp only [Array.size_setIfInBounds]); omega))⟩, frozen_of_block b0, ⟨_, cell_of_block b1 (Array.getElem?_eq_getElem (by (try simp only [Array.size_setIfInBounds]); omega))⟩, frozen_of_block b1, ⟨_, cell_of_block b2 (Array.getElem?_eq_getElem (by (try simp only [Array.size_setIfInBounds]); omega))⟩, frozen_of_block b2, ⟨_, cell_of_block b3 (Array.getElem?_eq_getElem (by (try simp only [Array.size_setIfInBounds]); omega))⟩, frozen_of_block b3, ⟨_, cell_of_block b4 (Array.getElem?_eq_getElem (by (try simp only [Array.size_setIfInBounds]); omega))⟩, frozen_of_block b4, ⟨_, cell_of_block b5 (Array.getElem?_eq_getElem (by (try simp only [Array.size_setIfInBounds]); omega))⟩, frozen_of_block b5, ⟨_, cell_of_block b6 (Array.getElem?_eq_getElem (by (try simp only [Array.size_setIfInBounds]); omega))⟩, frozen_of_block b6, ⟨_, cell_of_block b7 (Array.getElem?_eq_getElem (by (try simp only [Array.size_setIfInBounds]); omega))⟩, frozen_of_block b7⟩
set_option maxHeartbeats 6400000 in
set_option maxRecDepth 100000 in
theorem replace_no (w0 : Past) (w : World) (b : Nat) (h : Hist) (vl vs : Value) (rs : List EntR) (H : HiAt w0 w b h vl vs rs) (hU : Lib.Utf8Tabs 0 1 w0.toWorld) (url : ByteArray) (m : Msg) (sn sp : Option Addr) (nn cn np cp : Nat) (hm : MsgAt (fun k => w0.heap.size ≤ k) w (.slice sn nn cn) (.slice sp np cp) m) (hfit : MsgFit m) (ha : allowedB m = false) :
    Calls Tryd.prog 25 #[.pointer (some ⟨b, 0, none⟩), .string url, .agg #[.slice sn nn cn, .slice sp np cp]] w fun z w' => z = .returned (.int .i64 1) ∧ OpX w0 w b (Mut b vl vs) h w' := by
  have hb5 := alloc_block w (.cells #[.slice sn nn cn, .slice sp np cp] 32)
  have hca := Chg.alloc (fun _ => False) w (.cells #[.slice sn nn cn, .slice sp np cp] 32)
  have y0 := cell_of_block (i := 0) hb5 rfl
  have y1 := cell_of_block (i := 1) hb5 rfl
  simp only [List.getElem_toArray, List.getElem_cons_zero, List.getElem_cons_succ] at y0 y1
  have HAL := Lib.hid (allowed_any _ sn sp nn cn np cp _ m (hm.chg hca (fun _ _ x => x.elim) (fun _ _ x => x)) hfit (utf8_past hU (H.chg.trans' hca)))
  rw [ha] at HAL
  have HX := Lib.hid (H.opx.still hca)
  clear H hm hfit ha hU hca hb5
  go_enter Tryd.func25, Tryd.ntmps25
  go_wp2_with (go_at_call 42; refine HAL.out.mono ?_; rintro _ w3 ⟨rfl, hc3⟩; have HC3 := Lib.hid hc3; clear hc3)
  go_ret
  exact ⟨rfl, HX.out.still HC3.out⟩
set_option maxHeartbeats 6400000 in
set_option maxRecDepth 100000 in
theorem replace_yes (w0 : Past) (w : World) (b : Nat) (h : Hist) (vl vs : Value) (rs : List EntR) (H : HiAt w0 w b h vl vs rs) (hU : Lib.Utf8Tabs 0 1 w0.toWorld) (url : ByteArray) (m : Msg) (sn sp : Option Addr) (nn cn np cp : Nat) (hm : MsgAt (fun k => w0.heap.size ≤ k) w (.slice sn nn cn) (.slice sp np cp) m) (hfit : MsgFit m) (ha : allowedB m = true) :
    Calls Tryd.prog 25 #[.pointer (some ⟨b, 0, none⟩), .string url, .agg #[.slice sn nn cn, .slice sp np cp]] w fun z w' => z = .returned (.int .i64 0) ∧ OpX w0 w b (Mut b vl vs) (replM h url m) w' := by
  obtain ⟨g, off, cl, r, rp1, rn1, rc1, rp2, rn2, rc2, rfl, hcl, hr, hre, hea, ⟨curA, hgA⟩, hcell⟩ := H.entCells
  have HB0 : Hid (w0.heap.size ≤ w.heap.size) := Lib.hid H.chg.size
  have hca1 := Chg.alloc (fun _ => False) w (.cells #[.slice sn nn cn, .slice sp np cp] 32)
  have hb5 := alloc_block w (.cells #[.slice sn nn cn, .slice sp np cp] 32)
  have HB5 := Lib.hid hb5
  have HC1 := Lib.hid hca1
  have HS1 := Lib.hid (World.size_alloc w (.cells #[.slice sn nn cn, .slice sp np cp] 32))
  have HH1 := Lib.hid (H.still hca1)
  have y0 := cell_of_block (i := 0) hb5 rfl
  have y1 := cell_of_block (i := 1) hb5 rfl
  simp only [List.getElem_toArray, List.getElem_cons_zero, List.getElem_cons_succ] at y0 y1
  have HAL := Lib.hid (allowed_any _ sn sp nn cn np cp _ m (hm.chg HC1.out (fun _ _ x => x.elim) (fun _ _ x => x)) hfit (utf8_past hU (H.chg.trans' HC1.out)))
  rw [ha] at HAL
  have HMS := Lib.hid (fun W (hc : Chg (fun k => w0.heap.size ≤ k) w W) => hm.chg (D' := fun k => w0.heap.size ≤ k) hc (fun _ _ x => x) (fun _ _ x => x))
  have HFO := Lib.hid hfit.ok
  have HOK := Lib.hid H.ok
  have HRR := Lib.hid hr
  have HGA := Lib.hid hgA
  have HCL := Lib.hid (show ∀ j, j < 8 → ∃ u, w.cell? ⟨g, off + h.at_ * 8 + j, none⟩ = some u from fun j hj => ⟨_, hcell j _ (List.getElem?_eq_getElem (by rw [EntR.len]; exact hj)) hj⟩)
  have a0 : (0 : Int) ≤ (h.at_ : Int) := by omega
  have a1 : (h.at_ : Int) < (rs.length : Int) := by have := H.ok; have := H.len; omega
  have HAT : Hid (h.at_ + 1 ≤ rs.length) := Lib.hid (by have := H.ok; have := H.len; omega)
  clear H hca1 hb5 hm hfit ha hU hre hea hcell hgA hr hcl
  go_enter Tryd.func25, Tryd.ntmps25
  go_upto_region 1 with fail
  generalize w.alloc (.cells #[.slice sn nn cn, .slice sp np cp] 32) = w1 at *
  generalize hb5e : w.heap.size = b5 at HB5 HS1 y0 y1 ⊢
  have HB5E := Lib.hid hb5e
  clear hb5e
  go_upto_region 3 with (go_at_call 42; refine HAL.out.mono ?_; rintro _ w3 ⟨rfl, hc3⟩)
  have HC3 := Lib.hid (HC1.out.trans' hc3)
  have HB53 := Lib.hid (hc3.keep HB5.out (fun x => x))
  have HS3 := Lib.hid hc3.size
  have h3 := HH1.out.still hc3
  have HH3 := Lib.hid h3
  have HCU := Lib.hid (current_any w0 w3 b h _ vs rs h3 (curE h) (curE_get h HOK.out))
  unfold EntC at HCU
  generalize hce : curE h = e at HCU
  have HCE := Lib.hid hce
  clear hce h3 hc3 y0 y1 HB5 HC1 HH1 HAL
  go_upto_region 4 with (go_at_call 19; refine HCU.out.mono ?_; rintro _ w4 ⟨vn4, vp4, rfl, hc4, hm4⟩; obtain ⟨⟨qn, mn, dn, rfl⟩, qp, mp, dp, rfl⟩ := hm4.vals)
  obtain ⟨w08, hw8e, hx8, h5⟩ := (HH3.out.still hc4).beside (.cells #[.int .i64 e.id, .int .i64 e.page, .string e.url, .string e.title, .slice qn mn dn, .slice qp mp dp, .int .i64 e.x, .int .i64 e.y] 34)
  have HW8E := Lib.hid hw8e
  have HB8 := Lib.hid (alloc_block w4 (.cells #[.int .i64 e.id, .int .i64 e.page, .string e.url, .string e.title, .slice qn mn dn, .slice qp mp dp, .int .i64 e.x, .int .i64 e.y] 34))
  have hca := hc4.allocR (.cells #[.int .i64 e.id, .int .i64 e.page, .string e.url, .string e.title, .slice qn mn dn, .slice qp mp dp, .int .i64 e.x, .int .i64 e.y] 34)
  have HC5 := Lib.hid (HC3.out.trans' hca)
  have HB55 := Lib.hid (hca.keep HB53.out (fun x => x))
  have HS4 := Lib.hid hc4.size
  have HH5 := Lib.hid h5
  have HX8 := Lib.hid hx8
  clear hca h5 hx8 hw8e hc4 hm4 HCU
  generalize w4.alloc (.cells #[.int .i64 e.id, .int .i64 e.page, .string e.url, .string e.title, .slice qn mn dn, .slice qp mp dp, .int .i64 e.x, .int .i64 e.y] 34) = w5 at *
  generalize hb8 : w4.heap.size = b8 at HB8 HX8 HS4 ⊢
  clear hb8
  have HB58 : Hid (b5 < b8) := Lib.hid (by have := HS1.out; have := HS3.out; have := HS4.out; omega)
  have hb5e := HB55.out
  have y0 := cell_of_block (i := 0) hb5e rfl
  have y1 := cell_of_block (i := 1) hb5e rfl
  simp only [List.getElem_toArray, List.getElem_cons_zero, List.getElem_cons_succ] at y0 y1
  have HS4 : Hid (w5.cell? ⟨b5, 0, none⟩ = some (.slice sn nn cn) ∧ w5.cell? ⟨b5, 1, none⟩ = some (.slice sp np cp)) := Lib.hid ⟨y0, y1⟩
  clear hb5e y0 y1
  refine wp_region_held_split 5 (fun w' => w'.cell? ⟨b5, 0, none⟩ = some (.slice sn nn cn) ∧ w'.cell? ⟨b5, 1, none⟩ = some (.slice sp np cp)) (by kernel_rfl) (by kernel_rfl) ?_ (fun hHeld => ?_)
  · (first | exact HS4.out | exact HKS.out _ (Chg.refl _ _) | exact zc)
  simp only [List.take_succ_cons, List.take_zero]
  have HKS : Hid (∀ W, Chg (fun _ => False) w5.drew W → W.cell? ⟨b5, 0, none⟩ = some (.slice sn nn cn) ∧ W.cell? ⟨b5, 1, none⟩ = some (.slice sp np cp)) := Lib.hid (fun W hc => ⟨hc.cell HS4.out.1, hc.cell HS4.out.2⟩)
  have HWD : Hid (Chg (fun _ => False) w5 w5.drew) := Lib.hid (Chg.refl _ w5).drewR
  generalize w5.drew = wD at *
  have hbD := HWD.out.keep HB8.out (fun x => x)
  have y2 := cell_of_block (i := 2) hbD rfl
  have yf2 := frozen_of_block (i := 2) hbD
  simp only [List.getElem_toArray, List.getElem_cons_zero, List.getElem_cons_succ] at y2
  have hb58 : b5 ≠ b8 := by have := HB58.out; omega
  have zc : (wD.setCell ⟨b8, 2, none⟩ (.string url)).cell? ⟨b5, 0, none⟩ = some (.slice sn nn cn) ∧ (wD.setCell ⟨b8, 2, none⟩ (.string url)).cell? ⟨b5, 1, none⟩ = some (.slice sp np cp) := ⟨(Chg.setCell wD ⟨b8, 2, none⟩ _).cellS (HWD.out.cell HS4.out.1) hb58, (Chg.setCell wD ⟨b8, 2, none⟩ _).cellS (HWD.out.cell HS4.out.2) hb58⟩
  refine wpAnyH_take (i := 0) (v := ?_) rfl (by kernel_rfl) (by kernel_rfl) (by kernel_rfl) (fun _ _ _ h => h) (Or.inl ⟨by rfl, ?_⟩) (by assumption) ?_
  rotate_left
  · (intro wq hSw; (try dsimp only at hSw); go_simp; (try with_reducible rfl))
  simp only [Act.put, List.getElem_toArray, List.getElem_cons_zero, List.getElem_cons_succ, List.setIfInBounds_toArray, List.set_cons_zero, List.set_cons_succ]
  refine wpAnyH_take (i := 1) (v := ?_) rfl (by kernel_rfl) (by kernel_rfl) (by kernel_rfl) (fun _ _ _ h => h) (Or.inl ⟨by rfl, ?_⟩) (by assumption) ?_
  rotate_left
  · (intro wq hSw; (try dsimp only at hSw); go_simp; (try with_reducible rfl))
  simp only [Act.put, List.getElem_toArray, List.getElem_cons_zero, List.getElem_cons_succ, List.setIfInBounds_toArray, List.set_cons_zero, List.set_cons_succ]
  refine wpAnyH_take (i := 2) (v := ?_) rfl (by kernel_rfl) (by kernel_rfl) (by kernel_rfl) (fun _ _ _ h => h) (Or.inl ⟨by rfl, ?_⟩) (by assumption) ?_
  rotate_left
  · (intro wq hSw; (try dsimp only at hSw); go_simp; (try with_reducible rfl))
  simp only [Act.put, List.getElem_toArray, List.getElem_cons_zero, List.getElem_cons_succ, List.setIfInBounds_toArray, List.set_cons_zero, List.set_cons_succ]
  refine wpAnyH_ready (rs := [3]) (by kernel_rfl) (by simp) ?_
  refine AllReadyH.cons (by simp only [List.getElem?_toArray, List.getElem?_cons_succ, List.getElem?_cons_zero]; rfl) (fun K hK => ?_) AllReadyH.nil
  go_simp
  refine hK.out _ _ ?_ (fun hHeld => ?_)
  · (first | exact HS4.out | exact HKS.out _ (Chg.refl _ _) | exact zc)
  clear hK K
  (try simp only [Act.put, List.getElem_toArray, List.getElem_cons_zero, List.getElem_cons_succ, List.setIfInBounds_toArray, List.set_cons_zero, List.set_cons_succ])
  refine wpAnyH_take (i := 4) (v := ?_) rfl (by kernel_rfl) (by kernel_rfl) (by kernel_rfl) (fun _ _ _ h => h) (Or.inl ⟨by rfl, ?_⟩) (by assumption) ?_
  rotate_left
  · (intro wq hSw; (try dsimp only at hSw); go_simp; (try with_reducible rfl))
  simp only [Act.put, List.getElem_toArray, List.getElem_cons_zero, List.getElem_cons_succ, List.setIfInBounds_toArray, List.set_cons_zero, List.set_cons_succ]
  refine wpAnyH_done (by kernel_rfl) ?_ _
  change wpList _ _ _ _ _ _
  simp only [List.drop_succ_cons, List.drop_zero]
  have hb2s := setCell_block (i := 2) (.string url) hbD
  have h2s : (wD.setCell ⟨b8, 2, none⟩ (.string url)).heap[b8]? = some (.cells #[.int .i64 e.id, .int .i64 e.page, .string url, .string e.title, .slice qn mn dn, .slice qp mp dp, .int .i64 e.x, .int .i64 e.y] 34 (0, 0)) := by simpa using hb2s
  have y4 := cell_of_block (i := 4) h2s rfl
  have yf4 := frozen_of_block (i := 4) h2s
  have hb4s := setCell_block (i := 4) (.slice sn nn cn) h2s
  have h4s : ((wD.setCell ⟨b8, 2, none⟩ (.string url)).setCell ⟨b8, 4, none⟩ (.slice sn nn cn)).heap[b8]? = some (.cells #[.int .i64 e.id, .int .i64 e.page, .string url, .string e.title, .slice sn nn cn, .slice qp mp dp, .int .i64 e.x, .int .i64 e.y] 34 (0, 0)) := by simpa using hb4s
  have y5 := cell_of_block (i := 5) h4s rfl
  have yf5 := frozen_of_block (i := 5) h4s
  have hb5s := setCell_block (i := 5) (.slice sp np cp) h4s
  have h5s : (((wD.setCell ⟨b8, 2, none⟩ (.string url)).setCell ⟨b8, 4, none⟩ (.slice sn nn cn)).setCell ⟨b8, 5, none⟩ (.slice sp np cp)).heap[b8]? = some (.cells #[.int .i64 e.id, .int .i64 e.page, .string url, .string e.title, .slice sn nn cn, .slice sp np cp, .int .i64 e.x, .int .i64 e.y] 34 (0, 0)) := by simpa using hb5s
  simp only [List.getElem_toArray, List.getElem_cons_zero, List.getElem_cons_succ] at y4 y5
  go_upto_region 5 with fail
  have hcs : Chg (fun k => k = b8) w5 (((wD.setCell ⟨b8, 2, none⟩ (.string url)).setCell ⟨b8, 4, none⟩ (.slice sn nn cn)).setCell ⟨b8, 5, none⟩ (.slice sp np cp)) := HWD.out.trans (chg_put4 (chg_put4 (Chg.setCell wD ⟨b8, 2, none⟩ _))) (fun _ _ x => x.elim) (fun _ _ x => x)
  have HB8S : Hid (w0.heap.size ≤ b8 ∧ w.heap.size ≤ b8) := Lib.hid (by have := HB0.out; have := HB5E.out; have := HB58.out; omega)
  have h6 := HH5.out.write hcs (fun k x => (HX8.out k).2 (.inr x)) (fun k x => by show w08.toWorld.heap.size ≤ k; rw [HW8E.out, show k = b8 from x]; exact HB8S.out.1)
  have HB86 := Lib.hid h5s
  have HC6 := Lib.hid (HC5.out.trans hcs (fun k _ x => (x.elim : w.heap.size ≤ k)) (fun k _ x => by have := HB8S.out.2; have : k = b8 := x; omega))
  have HH6 := Lib.hid h6
  have d0 := cell_of_block (i := 0) h6.box rfl
  have d1 := cell_of_block (i := 1) h6.box rfl
  simp only [List.getElem_toArray, List.getElem_cons_zero, List.getElem_cons_succ] at d0 d1
  have HD0 := Lib.hid d0
  have HD1 := Lib.hid d1
  clear hb2s h2s y4 yf4 hb4s h4s y5 yf5 hb5s h5s hcs h6 hbD y2 yf2 zc hb58 HKS hHeld HS4 HWD HB55
  generalize ((wD.setCell ⟨b8, 2, none⟩ (.string url)).setCell ⟨b8, 4, none⟩ (.slice sn nn cn)).setCell ⟨b8, 5, none⟩ (.slice sp np cp) = w6 at *
  go_quiet (fail)
  go_upto_region 6 with fail
  have HC67 := Lib.hid (Chg.drewN (fun _ => False) w6 nq)
  generalize w6.drewN nq = w7 at *
  have hb87 := HC67.out.keep HB86.out (fun x => x)
  have HS6 : Hid (w7.cell? ⟨b, 0, none⟩ = some (.slice (some ⟨g, off, none⟩) rs.length cl) ∧ w7.cell? ⟨b, 1, none⟩ = some (.int .i64 (h.at_ : Int)) ∧ w7.cell? ⟨b8, 0, none⟩ = some (.int .i64 e.id) ∧ w7.cell? ⟨b8, 1, none⟩ = some (.int .i64 e.page) ∧ w7.cell? ⟨b8, 2, none⟩ = some (.string url) ∧ w7.cell? ⟨b8, 3, none⟩ = some (.string e.title) ∧ w7.cell? ⟨b8, 4, none⟩ = some (.slice sn nn cn) ∧ w7.cell? ⟨b8, 5, none⟩ = some (.slice sp np cp) ∧ w7.cell? ⟨b8, 6, none⟩ = some (.int .i64 e.x) ∧ w7.cell? ⟨b8, 7, none⟩ = some (.int .i64 e.y)) := Lib.hid ⟨HC67.out.cell HD0.out, HC67.out.cell HD1.out, cell_of_block (i := 0) hb87 rfl, cell_of_block (i := 1) hb87 rfl, cell_of_block (i := 2) hb87 rfl, cell_of_block (i := 3) hb87 rfl, cell_of_block (i := 4) hb87 rfl, cell_of_block (i := 5) hb87 rfl, cell_of_block (i := 6) hb87 rfl, cell_of_block (i := 7) hb87 rfl⟩
  have HCP := Lib.hid (fun W (hc : Chg (fun _ => False) w7 W) => copied_any W e.id e.page e.x e.y url e.title (.slice sn nn cn) (.slice sp np cp) m (HMS.out W ((HC6.out.trans HC67.out (fun k hk x => (by omega : w0.heap.size ≤ k)) (fun _ _ x => x.elim)).trans hc (fun _ _ x => x) (fun _ _ x => x.elim))) HFO.out)
  unfold EntC at HCP
  clear hb87 d0 d1
  refine wp_region_held_split 11 (fun w' => w'.cell? ⟨b, 0, none⟩ = some (.slice (some ⟨g, off, none⟩) rs.length cl) ∧ w'.cell? ⟨b, 1, none⟩ = some (.int .i64 (h.at_ : Int)) ∧ w'.cell? ⟨b8, 0, none⟩ = some (.int .i64 e.id) ∧ w'.cell? ⟨b8, 1, none⟩ = some (.int .i64 e.page) ∧ w'.cell? ⟨b8, 2, none⟩ = some (.string url) ∧ w'.cell? ⟨b8, 3, none⟩ = some (.string e.title) ∧ w'.cell? ⟨b8, 4, none⟩ = some (.slice sn nn cn) ∧ w'.cell? ⟨b8, 5, none⟩ = some (.slice sp np cp) ∧ w'.cell? ⟨b8, 6, none⟩ = some (.int .i64 e.x) ∧ w'.cell? ⟨b8, 7, none⟩ = some (.int .i64 e.y)) (by kernel_rfl) (by kernel_rfl) ?_ (fun hHeld => ?_)
  · (first | exact HS6.out | exact HKS.out _ (Chg.refl _ _) | exact zc)
  simp only [List.take_succ_cons, List.take_zero]
  have HKS : Hid (∀ W, Chg (fun _ => False) w7.drew W → W.cell? ⟨b, 0, none⟩ = some (.slice (some ⟨g, off, none⟩) rs.length cl) ∧ W.cell? ⟨b, 1, none⟩ = some (.int .i64 (h.at_ : Int)) ∧ W.cell? ⟨b8, 0, none⟩ = some (.int .i64 e.id) ∧ W.cell? ⟨b8, 1, none⟩ = some (.int .i64 e.page) ∧ W.cell? ⟨b8, 2, none⟩ = some (.string url) ∧ W.cell? ⟨b8, 3, none⟩ = some (.string e.title) ∧ W.cell? ⟨b8, 4, none⟩ = some (.slice sn nn cn) ∧ W.cell? ⟨b8, 5, none⟩ = some (.slice sp np cp) ∧ W.cell? ⟨b8, 6, none⟩ = some (.int .i64 e.x) ∧ W.cell? ⟨b8, 7, none⟩ = some (.int .i64 e.y)) := Lib.hid (fun W hc => ⟨hc.cell HS6.out.1, hc.cell HS6.out.2.1, hc.cell HS6.out.2.2.1, hc.cell HS6.out.2.2.2.1, hc.cell HS6.out.2.2.2.2.1, hc.cell HS6.out.2.2.2.2.2.1, hc.cell HS6.out.2.2.2.2.2.2.1, hc.cell HS6.out.2.2.2.2.2.2.2.1, hc.cell HS6.out.2.2.2.2.2.2.2.2.1, hc.cell HS6.out.2.2.2.2.2.2.2.2.2⟩)
  have HWD6 : Hid (Chg (fun _ => False) w7 w7.drew) := Lib.hid (Chg.refl _ w7).drewR
  generalize w7.drew = wE at *
  refine wpAnyH_take (i := 0) (v := ?_) rfl (by kernel_rfl) (by kernel_rfl) (by kernel_rfl) (fun _ _ _ h => h) (Or.inl ⟨by rfl, ?_⟩) (by assumption) ?_
  rotate_left
  · (intro wq hSw; (try dsimp only at hSw); go_simp; (try with_reducible rfl))
  simp only [Act.put, List.getElem_toArray, List.getElem_cons_zero, List.getElem_cons_succ, List.setIfInBounds_toArray, List.set_cons_zero, List.set_cons_succ]
  refine wpAnyH_take (i := 1) (v := ?_) rfl (by kernel_rfl) (by kernel_rfl) (by kernel_rfl) (fun _ _ _ h => h) (Or.inl ⟨by rfl, ?_⟩) (by assumption) ?_
  rotate_left
  · (intro wq hSw; (try dsimp only at hSw); go_simp; (try with_reducible rfl))
  simp only [Act.put, List.getElem_toArray, List.getElem_cons_zero, List.getElem_cons_succ, List.setIfInBounds_toArray, List.set_cons_zero, List.set_cons_succ]
  refine wpAnyH_take (i := 2) (v := ?_) rfl (by kernel_rfl) (by kernel_rfl) (by kernel_rfl) (fun _ _ _ h => h) (Or.inl ⟨by rfl, ?_⟩) (by assumption) ?_
  rotate_left
  · (intro wq hSw; (try dsimp only at hSw); go_simp; (try with_reducible rfl))
  simp only [Act.put, List.getElem_toArray, List.getElem_cons_zero, List.getElem_cons_succ, List.setIfInBounds_toArray, List.set_cons_zero, List.set_cons_succ]
  refine wpAnyH_take (i := 3) (v := ?_) rfl (by kernel_rfl) (by kernel_rfl) (by kernel_rfl) (fun _ _ _ h => h) (Or.inl ⟨by rfl, ?_⟩) (by assumption) ?_
  rotate_left
  · (intro wq hSw; (try dsimp only at hSw); go_simp; (try with_reducible rfl))
  simp only [Act.put, List.getElem_toArray, List.getElem_cons_zero, List.getElem_cons_succ, List.setIfInBounds_toArray, List.set_cons_zero, List.set_cons_succ]
  refine wpAnyH_take (i := 4) (v := ?_) rfl (by kernel_rfl) (by kernel_rfl) (by kernel_rfl) (fun _ _ _ h => h) (Or.inl ⟨by rfl, ?_⟩) (by assumption) ?_
  rotate_left
  · (intro wq hSw; (try dsimp only at hSw); go_simp; (try with_reducible rfl))
  simp only [Act.put, List.getElem_toArray, List.getElem_cons_zero, List.getElem_cons_succ, List.setIfInBounds_toArray, List.set_cons_zero, List.set_cons_succ]
  refine wpAnyH_take (i := 5) (v := ?_) rfl (by kernel_rfl) (by kernel_rfl) (by kernel_rfl) (fun _ _ _ h => h) (Or.inl ⟨by rfl, ?_⟩) (by assumption) ?_
  rotate_left
  · (intro wq hSw; (try dsimp only at hSw); go_simp; (try with_reducible rfl))
  simp only [Act.put, List.getElem_toArray, List.getElem_cons_zero, List.getElem_cons_succ, List.setIfInBounds_toArray, List.set_cons_zero, List.set_cons_succ]
  refine wpAnyH_take (i := 6) (v := ?_) rfl (by kernel_rfl) (by kernel_rfl) (by kernel_rfl) (fun _ _ _ h => h) (Or.inl ⟨by rfl, ?_⟩) (by assumption) ?_
  rotate_left
  · (intro wq hSw; (try dsimp only at hSw); go_simp; (try with_reducible rfl))
  simp only [Act.put, List.getElem_toArray, List.getElem_cons_zero, List.getElem_cons_succ, List.setIfInBounds_toArray, List.set_cons_zero, List.set_cons_succ]
  refine wpAnyH_take (i := 7) (v := ?_) rfl (by kernel_rfl) (by kernel_rfl) (by kernel_rfl) (fun _ _ _ h => h) (Or.inl ⟨by rfl, ?_⟩) (by assumption) ?_
  rotate_left
  · (intro wq hSw; (try dsimp only at hSw); go_simp; (try with_reducible rfl))
  simp only [Act.put, List.getElem_toArray, List.getElem_cons_zero, List.getElem_cons_succ, List.setIfInBounds_toArray, List.set_cons_zero, List.set_cons_succ]
  refine wpAnyH_take (i := 8) (v := ?_) rfl (by kernel_rfl) (by kernel_rfl) (by kernel_rfl) (fun _ _ _ h => h) (Or.inl ⟨by rfl, ?_⟩) (by assumption) ?_
  rotate_left
  · (intro wq hSw; (try dsimp only at hSw); go_simp; (try with_reducible rfl))
  simp only [Act.put, List.getElem_toArray, List.getElem_cons_zero, List.getElem_cons_succ, List.setIfInBounds_toArray, List.set_cons_zero, List.set_cons_succ]
  refine wpAnyH_ready (rs := [9]) (by kernel_rfl) (by simp) ?_
  refine AllReadyH.cons (by simp only [List.getElem?_toArray, List.getElem?_cons_succ, List.getElem?_cons_zero]; rfl) (fun K hK => ?_) AllReadyH.nil
  (go_simp; go_at_call 38; refine (HCP.out _ HWD6.out).mono ?_; rintro _ wd ⟨vn3, vp3, rfl, hcd, hmd⟩; obtain ⟨⟨tn, mn3, dn3, rfl⟩, tp, mp3, dp3, rfl⟩ := hmd.vals; have HMD := Lib.hid hmd; have HCD := Lib.hid (HWD6.out.trans' hcd); have zc := HKS.out _ hcd; clear hmd hcd; go_simp)
  refine hK.out _ _ ?_ (fun hHeld => ?_)
  · (first | exact HS6.out | exact HKS.out _ (Chg.refl _ _) | exact zc)
  clear hK K
  (try simp only [Act.put, List.getElem_toArray, List.getElem_cons_zero, List.getElem_cons_succ, List.setIfInBounds_toArray, List.set_cons_zero, List.set_cons_succ])
  refine wpAnyH_take (i := 10) (v := ?_) rfl (by kernel_rfl) (by kernel_rfl) (by kernel_rfl) (fun _ _ _ h => h) (Or.inl ⟨by rfl, ?_⟩) (by assumption) ?_
  rotate_left
  · (intro wq hSw; (try dsimp only at hSw); go_simp; (try with_reducible rfl))
  simp only [Act.put, List.getElem_toArray, List.getElem_cons_zero, List.getElem_cons_succ, List.setIfInBounds_toArray, List.set_cons_zero, List.set_cons_succ]
  refine wpAnyH_done (by kernel_rfl) ?_ _
  change wpList _ _ _ _ _ _
  simp only [List.drop_succ_cons, List.drop_zero]
  have hC := HC67.out.trans' HCD.out
  have hgD := (HC6.out.trans HC67.out (fun _ _ x => x) (fun _ _ x => x.elim)).trans HCD.out (fun _ _ x => x) (fun _ _ x => x.elim) |>.keep HGA.out (by have := lt_of_block HGA.out; omega)
  have hsz : off + h.at_ * 8 + 8 ≤ curA.size := by
    obtain ⟨u, hu⟩ := HCL.out 7 (by omega)
    have := cell_lt_block HGA.out hu
    omega
  obtain ⟨⟨zu0, zr0⟩, zf0, ⟨zu1, zr1⟩, zf1, ⟨zu2, zr2⟩, zf2, ⟨zu3, zr3⟩, zf3, ⟨zu4, zr4⟩, zf4, ⟨zu5, zr5⟩, zf5, ⟨zu6, zr6⟩, zf6, ⟨zu7, zr7⟩, zf7⟩ := storeRow8 hgD hsz (.int .i64 e.id) (.int .i64 e.page) (.string url) (.string e.title) (.slice tn mn3 dn3) (.slice tp mp3 dp3) (.int .i64 e.x) (.int .i64 e.y)
  have HHD := Lib.hid (HH6.out.still hC)
  have HCW := Lib.hid ((HC6.out.trans hC (fun _ _ x => x) (fun _ _ x => x.elim)))
  clear zc hHeld HKS hC hgD hsz
  go_wp2_with fail
  go_ret
  have hal : h.at_ < rs.length := HAT.out
  have hrow := put_cellsN (i := h.at_ * 8) (zs := [.int .i64 e.id, .int .i64 e.page, .string url, .string e.title, .slice tn mn3 dn3, .slice tp mp3 dp3, .int .i64 e.x, .int .i64 e.y]) HHD.out.row (by simp only [List.length_cons, List.length_nil]; omega)
  rw [← Nat.add_zero (h.at_ * 8), flatE_edit (r' := ⟨e.id, e.page, url, e.title, .slice tn mn3 dn3, .slice tp mp3 dp3, e.x, e.y⟩) (c := 0) HRR.out (by simp only [List.length_cons, List.length_nil]; omega) (by
    rw [List.take_zero, List.nil_append, List.drop_of_length_le (by rw [EntR.len]; simp), List.append_nil]; rfl)] at hrow
  have hpe : pushE h url m = ⟨e.id, e.page, url, e.title, m, e.x, e.y⟩ := by unfold pushE; rw [HCE.out]
  have hed := HHD.out.edited (w1 := wd.setCells g (off + h.at_ * 8) [.int .i64 e.id, .int .i64 e.page, .string url, .string e.title, .slice tn mn3 dn3, .slice tp mp3 dp3, .int .i64 e.x, .int .i64 e.y]) ⟨e.id, e.page, url, e.title, .slice tn mn3 dn3, .slice tp mp3 dp3, e.x, e.y⟩ (pushE h url m) ((Chg.setCells (b := g) _ wd (off + h.at_ * 8)).mono (fun k _ x => by subst x; rfl)) hrow
    (by rw [hpe]; exact ⟨rfl, rfl, rfl, rfl, HMD.out.chg (Chg.refl (fun _ => False) wd) (fun _ _ x => x.elim) (fun k hk x => by
      show k < wE.heap.size
      refine Nat.lt_of_lt_of_le ?_ HWD6.out.size
      refine Nat.lt_of_lt_of_le ?_ HC67.out.size
      rcases x with x | x
      · exact HH6.out.mutLt k x
      · exact HH6.out.xl k x), rfl, rfl⟩) (by rw [hpe]; exact HFO.out)
  refine ⟨rfl, _, _, _, hed.shrink HW8E.out (fun k x => (HX8.out k).2 (.inl x)), ?_, fun k _ x => x⟩
  refine (HCW.out.trans (Chg.setCells (b := g) [.int .i64 e.id, .int .i64 e.page, .string url, .string e.title, .slice tn mn3 dn3, .slice tp mp3 dp3, .int .i64 e.x, .int .i64 e.y] wd (off + h.at_ * 8)) (fun k _ x => (.inr x : Mut b (.slice (some ⟨g, off, none⟩) rs.length cl) vs k ∨ w.heap.size ≤ k)) (fun k _ x => .inl (.inr (.inl (by subst x; rfl))))).mono (fun k hk x => x.elim id (fun y => by omega))
end Go.Proofs.YtiecgbmeobpomaaDoor
namespace Go.Proofs.YtiecgbmeobpomaaDoor
open Go.RowKit
set_option linter.unusedVariables false
set_option linter.unusedSimpArgs false

/-- What is known of an operation where it begins. -/
structure DoB (w0 : Past) (h : Hist) (o : COp) (w : World) (sn sp : Option Addr) (nn cn np cp : Nat) : Prop where
  tabs : Lib.Utf8Tabs 0 1 w0.toWorld
  msg : MsgAt (fun k => w0.heap.size ≤ k) w (.slice sn nn cn) (.slice sp np cp) o.msg
  fit : MsgFit o.msg
  kind : o.kind < 256
  delta : -128 ≤ o.delta ∧ o.delta ≤ 127
  hok : HOk 800 h
section
variable {w0 w06 : Past} {w w1 w2 w3 : World} {b b4 : Nat} {h' : Hist} {m : Mv} {z : Value} {vl vs : Value}
theorem do_fin (X : OpV w06 w1 b (Mut b vl vs) h' m z w2) (hcs : Chg (fun k => k = b4) w2 w3) (hc1 : Chg (fun _ => False) w w1) (he : w06.toWorld = w0.toWorld) (hx : ∀ k, (w0.X k → w06.X k) ∧ (k = b4 → w06.X k)) (h0 : w0.heap.size ≤ b4) (hb : w.heap.size ≤ b4) (hb1 : b4 < w1.heap.size) : OpV w0 w b (Mut b vl vs) h' m z w3 := by
  obtain ⟨vl2, vs2, rs2, h2, hc2, hm2, hmv⟩ := X
  refine ⟨vl2, vs2, rs2, (h2.write hcs (fun k e => (hx k).2 e) (fun k e => by show w06.toWorld.heap.size ≤ k; rw [he, show k = b4 from e]; exact h0)).shrink he (fun k x => (hx k).1 x), ?_, fun k hk x => hm2 k (Nat.lt_of_lt_of_le hk hc1.size) x, hmv.chg hcs (fun k hk e => .inl (by have : k = b4 := e; omega)) (fun k hk x => x.elim (fun y => .inl (Nat.lt_of_lt_of_le y hc1.size)) .inr)⟩
  exact (hc1.trans hc2 (fun _ _ x => x.elim) (fun _ _ x => x)).trans hcs (fun _ _ x => x) (fun k hk e => by have : k = b4 := e; omega)
theorem do_fin0 (X : OpX w06 w1 b (Mut b vl vs) h' w2) (hcs : Chg (fun k => k = b4) w2 w3) (hc1 : Chg (fun _ => False) w w1) (he : w06.toWorld = w0.toWorld) (hx : ∀ k, (w0.X k → w06.X k) ∧ (k = b4 → w06.X k)) (h0 : w0.heap.size ≤ b4) (hb : w.heap.size ≤ b4) (hb1 : b4 < w1.heap.size) :
    OpV w0 w b (Mut b vl vs) h' Mv0 (.agg #[.int .i64 0, .int .i64 0, .string ⟨#[]⟩, .string ⟨#[]⟩, .slice none 0 0, .slice none 0 0, .int .i64 0, .int .i64 0, .int .i64 0, .bool false, .bool false, .slice none 0 0]) w3 := by
  obtain ⟨vl2, vs2, rs2, h2, hc2, hm2⟩ := X
  exact do_fin (w06 := w06) (w1 := w1) ⟨vl2, vs2, rs2, h2, hc2, hm2, MvAt.zero _ _⟩ hcs hc1 he hx h0 hb hb1
end
set_option maxHeartbeats 3200000 in
set_option maxRecDepth 100000 in
theorem do_nav (w0 : Past) (w : World) (b : Nat) (h : Hist) (vl vs : Value) (rs : List EntR) (o : COp) (sn sp : Option Addr) (nn cn np cp : Nat) (H : HiAt w0 w b h vl vs rs) (B : DoB w0 h o w sn sp nn cn np cp) (hk : (o.kind : Int) % 7 = 0) :
    Calls Tryd.prog 15 #[.pointer (some ⟨b, 0, none⟩), .agg #[.int .u8 (o.kind : Int), .string o.url, .bool o.keep, .int .i8 o.delta, .slice sn nn cn, .slice sp np cp]] w fun z w' => ∃ zv, z = .returned (.tuple #[zv, .int .i64 (0)]) ∧ OpV w0 w b (Mut b vl vs) (navM h o.url o.keep) (navV h o.url o.keep) zv w' := by
  obtain ⟨w06, hw6e, hx6, H1⟩ := H.beside2 (.cells #[.int .u8 (o.kind : Int), .string o.url, .bool o.keep, .int .i8 o.delta, .slice sn nn cn, .slice sp np cp] 38) (.cells #[.int .i64 0, .int .i64 0, .string ⟨#[]⟩, .string ⟨#[]⟩, .slice none 0 0, .slice none 0 0, .int .i64 0, .int .i64 0, .int .i64 0, .bool false, .bool false, .slice none 0 0] 40)
  have hb4 := alloc_block (w.alloc (.cells #[.int .u8 (o.kind : Int), .string o.url, .bool o.keep, .int .i8 o.delta, .slice sn nn cn, .slice sp np cp] 38)) (.cells #[.int .i64 0, .int .i64 0, .string ⟨#[]⟩, .string ⟨#[]⟩, .slice none 0 0, .slice none 0 0, .int .i64 0, .int .i64 0, .int .i64 0, .bool false, .bool false, .slice none 0 0] 40)
  rw [World.size_alloc] at hb4
  have HB4 := Lib.hid hb4
  have HB3 := Lib.hid (alloc_old (.cells #[.int .i64 0, .int .i64 0, .string ⟨#[]⟩, .string ⟨#[]⟩, .slice none 0 0, .slice none 0 0, .int .i64 0, .int .i64 0, .int .i64 0, .bool false, .bool false, .slice none 0 0] 40) (alloc_block w (.cells #[.int .u8 (o.kind : Int), .string o.url, .bool o.keep, .int .i8 o.delta, .slice sn nn cn, .slice sp np cp] 38)))
  have hC1 := (Chg.alloc (fun _ => False) w (.cells #[.int .u8 (o.kind : Int), .string o.url, .bool o.keep, .int .i8 o.delta, .slice sn nn cn, .slice sp np cp] 38)).allocR (.cells #[.int .i64 0, .int .i64 0, .string ⟨#[]⟩, .string ⟨#[]⟩, .slice none 0 0, .slice none 0 0, .int .i64 0, .int .i64 0, .int .i64 0, .bool false, .bool false, .slice none 0 0] 40)
  have HB0 : Hid (w0.heap.size ≤ w.heap.size ∧ w.heap.size + 1 < ((w.alloc (.cells #[.int .u8 (o.kind : Int), .string o.url, .bool o.keep, .int .i8 o.delta, .slice sn nn cn, .slice sp np cp] 38)).alloc (.cells #[.int .i64 0, .int .i64 0, .string ⟨#[]⟩, .string ⟨#[]⟩, .slice none 0 0, .slice none 0 0, .int .i64 0, .int .i64 0, .int .i64 0, .bool false, .bool false, .slice none 0 0] 40)).heap.size) := Lib.hid ⟨H.chg.size, by rw [World.size_alloc, World.size_alloc]; omega⟩
  have HMLT := Lib.hid H.mutLt
  have hU6 : Lib.Utf8Tabs 0 1 w06.toWorld := by rw [hw6e]; exact B.tabs
  have hm6 : MsgAt (fun k => w06.heap.size ≤ k) ((w.alloc (.cells #[.int .u8 (o.kind : Int), .string o.url, .bool o.keep, .int .i8 o.delta, .slice sn nn cn, .slice sp np cp] 38)).alloc (.cells #[.int .i64 0, .int .i64 0, .string ⟨#[]⟩, .string ⟨#[]⟩, .slice none 0 0, .slice none 0 0, .int .i64 0, .int .i64 0, .int .i64 0, .bool false, .bool false, .slice none 0 0] 40)) (.slice sn nn cn) (.slice sp np cp) o.msg := by
    rw [hw6e]; exact B.msg.chg hC1 (fun _ _ x => x.elim) (fun _ _ x => x)
  have HC := Lib.hid (navigate_any w06 _ b h vl vs rs H1 o.url o.keep (by have := B.hok.len; omega) (by have := B.hok.slp; omega) (by have := B.hok.next; omega) (by have := B.hok.page; omega))
  have HW6E := Lib.hid hw6e
  have HX6 := Lib.hid hx6
  have HC1 := Lib.hid hC1
  have wk : IntKind.i64.wrap (o.kind : Int) = (o.kind : Int) := IntWalk.i64_in _ (by have := B.kind; omega)
  have wd : IntKind.i64.wrap o.delta = o.delta := IntWalk.i64_in _ (by have := B.delta; omega)
  have l0 := cell_of_block (i := 0) HB3.out rfl
  have l1 := cell_of_block (i := 1) HB3.out rfl
  have l2 := cell_of_block (i := 2) HB3.out rfl
  have l3 := cell_of_block (i := 3) HB3.out rfl
  have l4 := cell_of_block (i := 4) HB3.out rfl
  have l5 := cell_of_block (i := 5) HB3.out rfl
  simp only [List.getElem_toArray, List.getElem_cons_zero, List.getElem_cons_succ] at l0 l1 l2 l3 l4 l5
  clear H H1 B hb4 hC1 hU6 hm6 hw6e hx6
  go_enter Tryd.func15, Tryd.ntmps15
  go_upto_region 1 with fail
  generalize (w.alloc (.cells #[.int .u8 (o.kind : Int), .string o.url, .bool o.keep, .int .i8 o.delta, .slice sn nn cn, .slice sp np cp] 38)).alloc (.cells #[.int .i64 0, .int .i64 0, .string ⟨#[]⟩, .string ⟨#[]⟩, .slice none 0 0, .slice none 0 0, .int .i64 0, .int .i64 0, .int .i64 0, .bool false, .bool false, .slice none 0 0] 40) = w1 at *
  generalize hb4e : w.heap.size + 1 = b4 at HB4 HB0 HX6 ⊢
  generalize hb3e : w.heap.size = b3 at HB3 l0 l1 l2 l3 l4 l5 HX6 ⊢
  have HB4E := Lib.hid hb4e
  clear hb4e hb3e
  have HZ : Hid (∀ w2, Chg (Mut b vl vs) w1 w2 → w2.heap[b4]? = some (.cells #[.int .i64 0, .int .i64 0, .string ⟨#[]⟩, .string ⟨#[]⟩, .slice none 0 0, .slice none 0 0, .int .i64 0, .int .i64 0, .int .i64 0, .bool false, .bool false, .slice none 0 0] 40 (0, 0))) := Lib.hid (fun w2 hc => hc.keep HB4.out (fun x => by have := HMLT.out b4 x; have := HB4E.out; omega))
  generalize hMV : navV h o.url o.keep = M at HC
  have HMV := Lib.hid hMV
  clear hMV
  go_wp2_with (go_at_call 22; refine HC.out.mono ?_; rintro _ w2 ⟨zv, rfl, hX⟩; obtain ⟨vl2, vs2, rs2, h2, hc2, hm2, vn2, vp2, vc2, rfl, hms2, hrow2, hown2⟩ := hX; obtain ⟨⟨rn, rn2, rc, rfl⟩, rp, rp2, rc2, rfl⟩ := hms2.vals; obtain ⟨ra, ra3, rfl, -, -⟩ := hrow2.slice; have HXX := Lib.hid (show OpV w06 w1 b (Mut b vl vs) _ M _ w2 from ⟨vl2, vs2, rs2, h2, hc2, hm2, _, _, _, rfl, hms2, hrow2, hown2⟩); have hb6e := HZ.out w2 hc2; unfold MvC; obtain ⟨z0, q0, z1, q1, z2, q2, z3, q3, z4, q4, z5, q5, z6, q6, z7, q7, z8, q8, z9, q9, z10, q10, z11, q11, hbf, hcs⟩ := store12 hb6e (.int .i64 M.entry.id) (.int .i64 M.entry.page) (.string M.entry.url) (.string M.entry.title) (.slice rn rn2 rc) (.slice rp rp2 rc2) (.int .i64 M.entry.x) (.int .i64 M.entry.y) (.int .i64 M.page) (.bool M.awake) (.bool M.sleeps) (.slice ra M.closed.length ra3); have HCS := Lib.hid hcs; clear hcs hb6e h2 hc2 hm2 hms2 hrow2 hown2)
  generalize ((((((((((((w2.setCell ⟨b4, 0, none⟩ (.int .i64 M.entry.id)).setCell ⟨b4, 1, none⟩ (.int .i64 M.entry.page)).setCell ⟨b4, 2, none⟩ (.string M.entry.url)).setCell ⟨b4, 3, none⟩ (.string M.entry.title)).setCell ⟨b4, 4, none⟩ (.slice rn rn2 rc)).setCell ⟨b4, 5, none⟩ (.slice rp rp2 rc2)).setCell ⟨b4, 6, none⟩ (.int .i64 M.entry.x)).setCell ⟨b4, 7, none⟩ (.int .i64 M.entry.y)).setCell ⟨b4, 8, none⟩ (.int .i64 M.page)).setCell ⟨b4, 9, none⟩ (.bool M.awake)).setCell ⟨b4, 10, none⟩ (.bool M.sleeps)).setCell ⟨b4, 11, none⟩ (.slice ra M.closed.length ra3)) = wz at *
  refine bodyPost_ret (results_cell_row_tmp48 rfl _ _ b4 #[.int .i64 M.entry.id, .int .i64 M.entry.page, .string M.entry.url, .string M.entry.title, .slice rn rn2 rc, .slice rp rp2 rc2, .int .i64 M.entry.x, .int .i64 M.entry.y, .int .i64 M.page, .bool M.awake, .bool M.sleeps, .slice ra M.closed.length ra3] (by rfl) (run_loadVar_row _ b4 40 40 _ _ _ hbf Tryd.underlying40 rfl (by kernel_rfl))) rfl ?_
  rw [HMV.out]
  exact ⟨_, rfl, do_fin HXX.out HCS.out HC1.out HW6E.out (fun k => ⟨fun x => (HX6.out k).2 (.inl x), fun e => (HX6.out k).2 (.inr (.inr e))⟩) (by have := HB0.out; have := HB4E.out; omega) (by have := HB4E.out; omega) HB0.out.2⟩
set_option maxHeartbeats 3200000 in
set_option maxRecDepth 100000 in
theorem do_push (w0 : Past) (w : World) (b : Nat) (h : Hist) (vl vs : Value) (rs : List EntR) (o : COp) (sn sp : Option Addr) (nn cn np cp : Nat) (H : HiAt w0 w b h vl vs rs) (B : DoB w0 h o w sn sp nn cn np cp) (hk : (o.kind : Int) % 7 = 1) (ha : allowedB o.msg = true) :
    Calls Tryd.prog 15 #[.pointer (some ⟨b, 0, none⟩), .agg #[.int .u8 (o.kind : Int), .string o.url, .bool o.keep, .int .i8 o.delta, .slice sn nn cn, .slice sp np cp]] w fun z w' => ∃ zv, z = .returned (.tuple #[zv, .int .i64 (0)]) ∧ OpV w0 w b (Mut b vl vs) (pushM h o.url o.msg) (pushV h o.url o.msg) zv w' := by
  obtain ⟨w06, hw6e, hx6, H1⟩ := H.beside2 (.cells #[.int .u8 (o.kind : Int), .string o.url, .bool o.keep, .int .i8 o.delta, .slice sn nn cn, .slice sp np cp] 38) (.cells #[.int .i64 0, .int .i64 0, .string ⟨#[]⟩, .string ⟨#[]⟩, .slice none 0 0, .slice none 0 0, .int .i64 0, .int .i64 0, .int .i64 0, .bool false, .bool false, .slice none 0 0] 40)
  have hb4 := alloc_block (w.alloc (.cells #[.int .u8 (o.kind : Int), .string o.url, .bool o.keep, .int .i8 o.delta, .slice sn nn cn, .slice sp np cp] 38)) (.cells #[.int .i64 0, .int .i64 0, .string ⟨#[]⟩, .string ⟨#[]⟩, .slice none 0 0, .slice none 0 0, .int .i64 0, .int .i64 0, .int .i64 0, .bool false, .bool false, .slice none 0 0] 40)
  rw [World.size_alloc] at hb4
  have HB4 := Lib.hid hb4
  have HB3 := Lib.hid (alloc_old (.cells #[.int .i64 0, .int .i64 0, .string ⟨#[]⟩, .string ⟨#[]⟩, .slice none 0 0, .slice none 0 0, .int .i64 0, .int .i64 0, .int .i64 0, .bool false, .bool false, .slice none 0 0] 40) (alloc_block w (.cells #[.int .u8 (o.kind : Int), .string o.url, .bool o.keep, .int .i8 o.delta, .slice sn nn cn, .slice sp np cp] 38)))
  have hC1 := (Chg.alloc (fun _ => False) w (.cells #[.int .u8 (o.kind : Int), .string o.url, .bool o.keep, .int .i8 o.delta, .slice sn nn cn, .slice sp np cp] 38)).allocR (.cells #[.int .i64 0, .int .i64 0, .string ⟨#[]⟩, .string ⟨#[]⟩, .slice none 0 0, .slice none 0 0, .int .i64 0, .int .i64 0, .int .i64 0, .bool false, .bool false, .slice none 0 0] 40)
  have HB0 : Hid (w0.heap.size ≤ w.heap.size ∧ w.heap.size + 1 < ((w.alloc (.cells #[.int .u8 (o.kind : Int), .string o.url, .bool o.keep, .int .i8 o.delta, .slice sn nn cn, .slice sp np cp] 38)).alloc (.cells #[.int .i64 0, .int .i64 0, .string ⟨#[]⟩, .string ⟨#[]⟩, .slice none 0 0, .slice none 0 0, .int .i64 0, .int .i64 0, .int .i64 0, .bool false, .bool false, .slice none 0 0] 40)).heap.size) := Lib.hid ⟨H.chg.size, by rw [World.size_alloc, World.size_alloc]; omega⟩
  have HMLT := Lib.hid H.mutLt
  have hU6 : Lib.Utf8Tabs 0 1 w06.toWorld := by rw [hw6e]; exact B.tabs
  have hm6 : MsgAt (fun k => w06.heap.size ≤ k) ((w.alloc (.cells #[.int .u8 (o.kind : Int), .string o.url, .bool o.keep, .int .i8 o.delta, .slice sn nn cn, .slice sp np cp] 38)).alloc (.cells #[.int .i64 0, .int .i64 0, .string ⟨#[]⟩, .string ⟨#[]⟩, .slice none 0 0, .slice none 0 0, .int .i64 0, .int .i64 0, .int .i64 0, .bool false, .bool false, .slice none 0 0] 40)) (.slice sn nn cn) (.slice sp np cp) o.msg := by
    rw [hw6e]; exact B.msg.chg hC1 (fun _ _ x => x.elim) (fun _ _ x => x)
  have HC := Lib.hid (push_yes w06 _ b h vl vs rs H1 hU6 o.url o.msg sn sp nn cn np cp hm6 B.fit ha (by have := B.hok.len; omega) (by have := B.hok.slp; omega) (by have := B.hok.next; omega))
  have HW6E := Lib.hid hw6e
  have HX6 := Lib.hid hx6
  have HC1 := Lib.hid hC1
  have wk : IntKind.i64.wrap (o.kind : Int) = (o.kind : Int) := IntWalk.i64_in _ (by have := B.kind; omega)
  have wd : IntKind.i64.wrap o.delta = o.delta := IntWalk.i64_in _ (by have := B.delta; omega)
  have l0 := cell_of_block (i := 0) HB3.out rfl
  have l1 := cell_of_block (i := 1) HB3.out rfl
  have l2 := cell_of_block (i := 2) HB3.out rfl
  have l3 := cell_of_block (i := 3) HB3.out rfl
  have l4 := cell_of_block (i := 4) HB3.out rfl
  have l5 := cell_of_block (i := 5) HB3.out rfl
  simp only [List.getElem_toArray, List.getElem_cons_zero, List.getElem_cons_succ] at l0 l1 l2 l3 l4 l5
  clear ha
  clear H H1 B hb4 hC1 hU6 hm6 hw6e hx6
  go_enter Tryd.func15, Tryd.ntmps15
  go_upto_region 1 with fail
  generalize (w.alloc (.cells #[.int .u8 (o.kind : Int), .string o.url, .bool o.keep, .int .i8 o.delta, .slice sn nn cn, .slice sp np cp] 38)).alloc (.cells #[.int .i64 0, .int .i64 0, .string ⟨#[]⟩, .string ⟨#[]⟩, .slice none 0 0, .slice none 0 0, .int .i64 0, .int .i64 0, .int .i64 0, .bool false, .bool false, .slice none 0 0] 40) = w1 at *
  generalize hb4e : w.heap.size + 1 = b4 at HB4 HB0 HX6 ⊢
  generalize hb3e : w.heap.size = b3 at HB3 l0 l1 l2 l3 l4 l5 HX6 ⊢
  have HB4E := Lib.hid hb4e
  clear hb4e hb3e
  have HZ : Hid (∀ w2, Chg (Mut b vl vs) w1 w2 → w2.heap[b4]? = some (.cells #[.int .i64 0, .int .i64 0, .string ⟨#[]⟩, .string ⟨#[]⟩, .slice none 0 0, .slice none 0 0, .int .i64 0, .int .i64 0, .int .i64 0, .bool false, .bool false, .slice none 0 0] 40 (0, 0))) := Lib.hid (fun w2 hc => hc.keep HB4.out (fun x => by have := HMLT.out b4 x; have := HB4E.out; omega))
  generalize hMV : pushV h o.url o.msg = M at HC
  have HMV := Lib.hid hMV
  clear hMV
  go_wp2_with (go_at_call 21; refine HC.out.mono ?_; rintro _ w2 ⟨zv, rfl, hX⟩; obtain ⟨vl2, vs2, rs2, h2, hc2, hm2, vn2, vp2, vc2, rfl, hms2, hrow2, hown2⟩ := hX; obtain ⟨⟨rn, rn2, rc, rfl⟩, rp, rp2, rc2, rfl⟩ := hms2.vals; obtain ⟨ra, ra3, rfl, -, -⟩ := hrow2.slice; have HXX := Lib.hid (show OpV w06 w1 b (Mut b vl vs) _ M _ w2 from ⟨vl2, vs2, rs2, h2, hc2, hm2, _, _, _, rfl, hms2, hrow2, hown2⟩); have hb6e := HZ.out w2 hc2; unfold MvC; obtain ⟨z0, q0, z1, q1, z2, q2, z3, q3, z4, q4, z5, q5, z6, q6, z7, q7, z8, q8, z9, q9, z10, q10, z11, q11, hbf, hcs⟩ := store12 hb6e (.int .i64 M.entry.id) (.int .i64 M.entry.page) (.string M.entry.url) (.string M.entry.title) (.slice rn rn2 rc) (.slice rp rp2 rc2) (.int .i64 M.entry.x) (.int .i64 M.entry.y) (.int .i64 M.page) (.bool M.awake) (.bool M.sleeps) (.slice ra M.closed.length ra3); have HCS := Lib.hid hcs; clear hcs hb6e h2 hc2 hm2 hms2 hrow2 hown2)
  generalize ((((((((((((w2.setCell ⟨b4, 0, none⟩ (.int .i64 M.entry.id)).setCell ⟨b4, 1, none⟩ (.int .i64 M.entry.page)).setCell ⟨b4, 2, none⟩ (.string M.entry.url)).setCell ⟨b4, 3, none⟩ (.string M.entry.title)).setCell ⟨b4, 4, none⟩ (.slice rn rn2 rc)).setCell ⟨b4, 5, none⟩ (.slice rp rp2 rc2)).setCell ⟨b4, 6, none⟩ (.int .i64 M.entry.x)).setCell ⟨b4, 7, none⟩ (.int .i64 M.entry.y)).setCell ⟨b4, 8, none⟩ (.int .i64 M.page)).setCell ⟨b4, 9, none⟩ (.bool M.awake)).setCell ⟨b4, 10, none⟩ (.bool M.sleeps)).setCell ⟨b4, 11, none⟩ (.slice ra M.closed.length ra3)) = wz at *
  refine bodyPost_ret (results_cell_row_tmp48 rfl _ _ b4 #[.int .i64 M.entry.id, .int .i64 M.entry.page, .string M.entry.url, .string M.entry.title, .slice rn rn2 rc, .slice rp rp2 rc2, .int .i64 M.entry.x, .int .i64 M.entry.y, .int .i64 M.page, .bool M.awake, .bool M.sleeps, .slice ra M.closed.length ra3] (by rfl) (run_loadVar_row _ b4 40 40 _ _ _ hbf Tryd.underlying40 rfl (by kernel_rfl))) rfl ?_
  rw [HMV.out]
  exact ⟨_, rfl, do_fin HXX.out HCS.out HC1.out HW6E.out (fun k => ⟨fun x => (HX6.out k).2 (.inl x), fun e => (HX6.out k).2 (.inr (.inr e))⟩) (by have := HB0.out; have := HB4E.out; omega) (by have := HB4E.out; omega) HB0.out.2⟩
set_option maxHeartbeats 3200000 in
set_option maxRecDepth 100000 in
theorem do_push_no (w0 : Past) (w : World) (b : Nat) (h : Hist) (vl vs : Value) (rs : List EntR) (o : COp) (sn sp : Option Addr) (nn cn np cp : Nat) (H : HiAt w0 w b h vl vs rs) (B : DoB w0 h o w sn sp nn cn np cp) (hk : (o.kind : Int) % 7 = 1) (ha : allowedB o.msg = false) :
    Calls Tryd.prog 15 #[.pointer (some ⟨b, 0, none⟩), .agg #[.int .u8 (o.kind : Int), .string o.url, .bool o.keep, .int .i8 o.delta, .slice sn nn cn, .slice sp np cp]] w fun z w' => ∃ zv, z = .returned (.tuple #[zv, .int .i64 (1)]) ∧ OpV w0 w b (Mut b vl vs) (h) (Mv0) zv w' := by
  obtain ⟨w06, hw6e, hx6, H1⟩ := H.beside2 (.cells #[.int .u8 (o.kind : Int), .string o.url, .bool o.keep, .int .i8 o.delta, .slice sn nn cn, .slice sp np cp] 38) (.cells #[.int .i64 0, .int .i64 0, .string ⟨#[]⟩, .string ⟨#[]⟩, .slice none 0 0, .slice none 0 0, .int .i64 0, .int .i64 0, .int .i64 0, .bool false, .bool false, .slice none 0 0] 40)
  have hb4 := alloc_block (w.alloc (.cells #[.int .u8 (o.kind : Int), .string o.url, .bool o.keep, .int .i8 o.delta, .slice sn nn cn, .slice sp np cp] 38)) (.cells #[.int .i64 0, .int .i64 0, .string ⟨#[]⟩, .string ⟨#[]⟩, .slice none 0 0, .slice none 0 0, .int .i64 0, .int .i64 0, .int .i64 0, .bool false, .bool false, .slice none 0 0] 40)
  rw [World.size_alloc] at hb4
  have HB4 := Lib.hid hb4
  have HB3 := Lib.hid (alloc_old (.cells #[.int .i64 0, .int .i64 0, .string ⟨#[]⟩, .string ⟨#[]⟩, .slice none 0 0, .slice none 0 0, .int .i64 0, .int .i64 0, .int .i64 0, .bool false, .bool false, .slice none 0 0] 40) (alloc_block w (.cells #[.int .u8 (o.kind : Int), .string o.url, .bool o.keep, .int .i8 o.delta, .slice sn nn cn, .slice sp np cp] 38)))
  have hC1 := (Chg.alloc (fun _ => False) w (.cells #[.int .u8 (o.kind : Int), .string o.url, .bool o.keep, .int .i8 o.delta, .slice sn nn cn, .slice sp np cp] 38)).allocR (.cells #[.int .i64 0, .int .i64 0, .string ⟨#[]⟩, .string ⟨#[]⟩, .slice none 0 0, .slice none 0 0, .int .i64 0, .int .i64 0, .int .i64 0, .bool false, .bool false, .slice none 0 0] 40)
  have HB0 : Hid (w0.heap.size ≤ w.heap.size ∧ w.heap.size + 1 < ((w.alloc (.cells #[.int .u8 (o.kind : Int), .string o.url, .bool o.keep, .int .i8 o.delta, .slice sn nn cn, .slice sp np cp] 38)).alloc (.cells #[.int .i64 0, .int .i64 0, .string ⟨#[]⟩, .string ⟨#[]⟩, .slice none 0 0, .slice none 0 0, .int .i64 0, .int .i64 0, .int .i64 0, .bool false, .bool false, .slice none 0 0] 40)).heap.size) := Lib.hid ⟨H.chg.size, by rw [World.size_alloc, World.size_alloc]; omega⟩
  have HMLT := Lib.hid H.mutLt
  have hU6 : Lib.Utf8Tabs 0 1 w06.toWorld := by rw [hw6e]; exact B.tabs
  have hm6 : MsgAt (fun k => w06.heap.size ≤ k) ((w.alloc (.cells #[.int .u8 (o.kind : Int), .string o.url, .bool o.keep, .int .i8 o.delta, .slice sn nn cn, .slice sp np cp] 38)).alloc (.cells #[.int .i64 0, .int .i64 0, .string ⟨#[]⟩, .string ⟨#[]⟩, .slice none 0 0, .slice none 0 0, .int .i64 0, .int .i64 0, .int .i64 0, .bool false, .bool false, .slice none 0 0] 40)) (.slice sn nn cn) (.slice sp np cp) o.msg := by
    rw [hw6e]; exact B.msg.chg hC1 (fun _ _ x => x.elim) (fun _ _ x => x)
  have HC := Lib.hid (push_no w06 _ b h vl vs rs H1 hU6 o.url o.msg sn sp nn cn np cp hm6 B.fit ha)
  have HW6E := Lib.hid hw6e
  have HX6 := Lib.hid hx6
  have HC1 := Lib.hid hC1
  have wk : IntKind.i64.wrap (o.kind : Int) = (o.kind : Int) := IntWalk.i64_in _ (by have := B.kind; omega)
  have wd : IntKind.i64.wrap o.delta = o.delta := IntWalk.i64_in _ (by have := B.delta; omega)
  have l0 := cell_of_block (i := 0) HB3.out rfl
  have l1 := cell_of_block (i := 1) HB3.out rfl
  have l2 := cell_of_block (i := 2) HB3.out rfl
  have l3 := cell_of_block (i := 3) HB3.out rfl
  have l4 := cell_of_block (i := 4) HB3.out rfl
  have l5 := cell_of_block (i := 5) HB3.out rfl
  simp only [List.getElem_toArray, List.getElem_cons_zero, List.getElem_cons_succ] at l0 l1 l2 l3 l4 l5
  clear ha
  clear H H1 B hb4 hC1 hU6 hm6 hw6e hx6
  go_enter Tryd.func15, Tryd.ntmps15
  go_upto_region 1 with fail
  generalize (w.alloc (.cells #[.int .u8 (o.kind : Int), .string o.url, .bool o.keep, .int .i8 o.delta, .slice sn nn cn, .slice sp np cp] 38)).alloc (.cells #[.int .i64 0, .int .i64 0, .string ⟨#[]⟩, .string ⟨#[]⟩, .slice none 0 0, .slice none 0 0, .int .i64 0, .int .i64 0, .int .i64 0, .bool false, .bool false, .slice none 0 0] 40) = w1 at *
  generalize hb4e : w.heap.size + 1 = b4 at HB4 HB0 HX6 ⊢
  generalize hb3e : w.heap.size = b3 at HB3 l0 l1 l2 l3 l4 l5 HX6 ⊢
  have HB4E := Lib.hid hb4e
  clear hb4e hb3e
  have HZ : Hid (∀ w2, Chg (Mut b vl vs) w1 w2 → w2.heap[b4]? = some (.cells #[.int .i64 0, .int .i64 0, .string ⟨#[]⟩, .string ⟨#[]⟩, .slice none 0 0, .slice none 0 0, .int .i64 0, .int .i64 0, .int .i64 0, .bool false, .bool false, .slice none 0 0] 40 (0, 0))) := Lib.hid (fun w2 hc => hc.keep HB4.out (fun x => by have := HMLT.out b4 x; have := HB4E.out; omega))
  generalize hMV : Mv0 = M at HC
  have HMV := Lib.hid hMV
  clear hMV
  go_wp2_with (go_at_call 21; refine HC.out.mono ?_; rintro _ w2 ⟨zv, rfl, hX⟩; obtain ⟨vl2, vs2, rs2, h2, hc2, hm2, vn2, vp2, vc2, rfl, hms2, hrow2, hown2⟩ := hX; obtain ⟨⟨rn, rn2, rc, rfl⟩, rp, rp2, rc2, rfl⟩ := hms2.vals; obtain ⟨ra, ra3, rfl, -, -⟩ := hrow2.slice; have HXX := Lib.hid (show OpV w06 w1 b (Mut b vl vs) _ M _ w2 from ⟨vl2, vs2, rs2, h2, hc2, hm2, _, _, _, rfl, hms2, hrow2, hown2⟩); have hb6e := HZ.out w2 hc2; unfold MvC; obtain ⟨z0, q0, z1, q1, z2, q2, z3, q3, z4, q4, z5, q5, z6, q6, z7, q7, z8, q8, z9, q9, z10, q10, z11, q11, hbf, hcs⟩ := store12 hb6e (.int .i64 M.entry.id) (.int .i64 M.entry.page) (.string M.entry.url) (.string M.entry.title) (.slice rn rn2 rc) (.slice rp rp2 rc2) (.int .i64 M.entry.x) (.int .i64 M.entry.y) (.int .i64 M.page) (.bool M.awake) (.bool M.sleeps) (.slice ra M.closed.length ra3); have HCS := Lib.hid hcs; clear hcs hb6e h2 hc2 hm2 hms2 hrow2 hown2)
  generalize ((((((((((((w2.setCell ⟨b4, 0, none⟩ (.int .i64 M.entry.id)).setCell ⟨b4, 1, none⟩ (.int .i64 M.entry.page)).setCell ⟨b4, 2, none⟩ (.string M.entry.url)).setCell ⟨b4, 3, none⟩ (.string M.entry.title)).setCell ⟨b4, 4, none⟩ (.slice rn rn2 rc)).setCell ⟨b4, 5, none⟩ (.slice rp rp2 rc2)).setCell ⟨b4, 6, none⟩ (.int .i64 M.entry.x)).setCell ⟨b4, 7, none⟩ (.int .i64 M.entry.y)).setCell ⟨b4, 8, none⟩ (.int .i64 M.page)).setCell ⟨b4, 9, none⟩ (.bool M.awake)).setCell ⟨b4, 10, none⟩ (.bool M.sleeps)).setCell ⟨b4, 11, none⟩ (.slice ra M.closed.length ra3)) = wz at *
  refine bodyPost_ret (results_cell_row_tmp48 rfl _ _ b4 #[.int .i64 M.entry.id, .int .i64 M.entry.page, .string M.entry.url, .string M.entry.title, .slice rn rn2 rc, .slice rp rp2 rc2, .int .i64 M.entry.x, .int .i64 M.entry.y, .int .i64 M.page, .bool M.awake, .bool M.sleeps, .slice ra M.closed.length ra3] (by rfl) (run_loadVar_row _ b4 40 40 _ _ _ hbf Tryd.underlying40 rfl (by kernel_rfl))) rfl ?_
  rw [HMV.out]
  exact ⟨_, rfl, do_fin HXX.out HCS.out HC1.out HW6E.out (fun k => ⟨fun x => (HX6.out k).2 (.inl x), fun e => (HX6.out k).2 (.inr (.inr e))⟩) (by have := HB0.out; have := HB4E.out; omega) (by have := HB4E.out; omega) HB0.out.2⟩
set_option maxHeartbeats 3200000 in
set_option maxRecDepth 100000 in
theorem do_repl (w0 : Past) (w : World) (b : Nat) (h : Hist) (vl vs : Value) (rs : List EntR) (o : COp) (sn sp : Option Addr) (nn cn np cp : Nat) (H : HiAt w0 w b h vl vs rs) (B : DoB w0 h o w sn sp nn cn np cp) (hk : (o.kind : Int) % 7 = 2) (ha : allowedB o.msg = true) :
    Calls Tryd.prog 15 #[.pointer (some ⟨b, 0, none⟩), .agg #[.int .u8 (o.kind : Int), .string o.url, .bool o.keep, .int .i8 o.delta, .slice sn nn cn, .slice sp np cp]] w fun z w' => ∃ zv, z = .returned (.tuple #[zv, .int .i64 (0)]) ∧ OpV w0 w b (Mut b vl vs) (replM h o.url o.msg) (Mv0) zv w' := by
  obtain ⟨w06, hw6e, hx6, H1⟩ := H.beside2 (.cells #[.int .u8 (o.kind : Int), .string o.url, .bool o.keep, .int .i8 o.delta, .slice sn nn cn, .slice sp np cp] 38) (.cells #[.int .i64 0, .int .i64 0, .string ⟨#[]⟩, .string ⟨#[]⟩, .slice none 0 0, .slice none 0 0, .int .i64 0, .int .i64 0, .int .i64 0, .bool false, .bool false, .slice none 0 0] 40)
  have hb4 := alloc_block (w.alloc (.cells #[.int .u8 (o.kind : Int), .string o.url, .bool o.keep, .int .i8 o.delta, .slice sn nn cn, .slice sp np cp] 38)) (.cells #[.int .i64 0, .int .i64 0, .string ⟨#[]⟩, .string ⟨#[]⟩, .slice none 0 0, .slice none 0 0, .int .i64 0, .int .i64 0, .int .i64 0, .bool false, .bool false, .slice none 0 0] 40)
  rw [World.size_alloc] at hb4
  have HB4 := Lib.hid hb4
  have HB3 := Lib.hid (alloc_old (.cells #[.int .i64 0, .int .i64 0, .string ⟨#[]⟩, .string ⟨#[]⟩, .slice none 0 0, .slice none 0 0, .int .i64 0, .int .i64 0, .int .i64 0, .bool false, .bool false, .slice none 0 0] 40) (alloc_block w (.cells #[.int .u8 (o.kind : Int), .string o.url, .bool o.keep, .int .i8 o.delta, .slice sn nn cn, .slice sp np cp] 38)))
  have hC1 := (Chg.alloc (fun _ => False) w (.cells #[.int .u8 (o.kind : Int), .string o.url, .bool o.keep, .int .i8 o.delta, .slice sn nn cn, .slice sp np cp] 38)).allocR (.cells #[.int .i64 0, .int .i64 0, .string ⟨#[]⟩, .string ⟨#[]⟩, .slice none 0 0, .slice none 0 0, .int .i64 0, .int .i64 0, .int .i64 0, .bool false, .bool false, .slice none 0 0] 40)
  have HB0 : Hid (w0.heap.size ≤ w.heap.size ∧ w.heap.size + 1 < ((w.alloc (.cells #[.int .u8 (o.kind : Int), .string o.url, .bool o.keep, .int .i8 o.delta, .slice sn nn cn, .slice sp np cp] 38)).alloc (.cells #[.int .i64 0, .int .i64 0, .string ⟨#[]⟩, .string ⟨#[]⟩, .slice none 0 0, .slice none 0 0, .int .i64 0, .int .i64 0, .int .i64 0, .bool false, .bool false, .slice none 0 0] 40)).heap.size) := Lib.hid ⟨H.chg.size, by rw [World.size_alloc, World.size_alloc]; omega⟩
  have HMLT := Lib.hid H.mutLt
  have hU6 : Lib.Utf8Tabs 0 1 w06.toWorld := by rw [hw6e]; exact B.tabs
  have hm6 : MsgAt (fun k => w06.heap.size ≤ k) ((w.alloc (.cells #[.int .u8 (o.kind : Int), .string o.url, .bool o.keep, .int .i8 o.delta, .slice sn nn cn, .slice sp np cp] 38)).alloc (.cells #[.int .i64 0, .int .i64 0, .string ⟨#[]⟩, .string ⟨#[]⟩, .slice none 0 0, .slice none 0 0, .int .i64 0, .int .i64 0, .int .i64 0, .bool false, .bool false, .slice none 0 0] 40)) (.slice sn nn cn) (.slice sp np cp) o.msg := by
    rw [hw6e]; exact B.msg.chg hC1 (fun _ _ x => x.elim) (fun _ _ x => x)
  have HC := Lib.hid (replace_yes w06 _ b h vl vs rs H1 hU6 o.url o.msg sn sp nn cn np cp hm6 B.fit ha)
  have HW6E := Lib.hid hw6e
  have HX6 := Lib.hid hx6
  have HC1 := Lib.hid hC1
  have wk : IntKind.i64.wrap (o.kind : Int) = (o.kind : Int) := IntWalk.i64_in _ (by have := B.kind; omega)
  have wd : IntKind.i64.wrap o.delta = o.delta := IntWalk.i64_in _ (by have := B.delta; omega)
  have l0 := cell_of_block (i := 0) HB3.out rfl
  have l1 := cell_of_block (i := 1) HB3.out rfl
  have l2 := cell_of_block (i := 2) HB3.out rfl
  have l3 := cell_of_block (i := 3) HB3.out rfl
  have l4 := cell_of_block (i := 4) HB3.out rfl
  have l5 := cell_of_block (i := 5) HB3.out rfl
  simp only [List.getElem_toArray, List.getElem_cons_zero, List.getElem_cons_succ] at l0 l1 l2 l3 l4 l5
  clear ha
  clear H H1 B hb4 hC1 hU6 hm6 hw6e hx6
  go_enter Tryd.func15, Tryd.ntmps15
  go_upto_region 1 with fail
  generalize (w.alloc (.cells #[.int .u8 (o.kind : Int), .string o.url, .bool o.keep, .int .i8 o.delta, .slice sn nn cn, .slice sp np cp] 38)).alloc (.cells #[.int .i64 0, .int .i64 0, .string ⟨#[]⟩, .string ⟨#[]⟩, .slice none 0 0, .slice none 0 0, .int .i64 0, .int .i64 0, .int .i64 0, .bool false, .bool false, .slice none 0 0] 40) = w1 at *
  generalize hb4e : w.heap.size + 1 = b4 at HB4 HB0 HX6 ⊢
  generalize hb3e : w.heap.size = b3 at HB3 l0 l1 l2 l3 l4 l5 HX6 ⊢
  have HB4E := Lib.hid hb4e
  clear hb4e hb3e
  have HZ : Hid (∀ w2, Chg (Mut b vl vs) w1 w2 → w2.heap[b4]? = some (.cells #[.int .i64 0, .int .i64 0, .string ⟨#[]⟩, .string ⟨#[]⟩, .slice none 0 0, .slice none 0 0, .int .i64 0, .int .i64 0, .int .i64 0, .bool false, .bool false, .slice none 0 0] 40 (0, 0))) := Lib.hid (fun w2 hc => hc.keep HB4.out (fun x => by have := HMLT.out b4 x; have := HB4E.out; omega))
  go_wp2_with (go_at_call 25; refine HC.out.mono ?_; rintro _ w2 ⟨rfl, hX⟩; have HXX := Lib.hid hX; have hb6e := HZ.out w2 hX.chg; obtain ⟨z0, q0, z1, q1, z2, q2, z3, q3, z4, q4, z5, q5, z6, q6, z7, q7, z8, q8, z9, q9, z10, q10, z11, q11, hbf, hcs⟩ := store12 hb6e (.int .i64 0) (.int .i64 0) (.string ⟨#[]⟩) (.string ⟨#[]⟩) (.slice none 0 0) (.slice none 0 0) (.int .i64 0) (.int .i64 0) (.int .i64 0) (.bool false) (.bool false) (.slice none 0 0); have HCS := Lib.hid hcs; clear hcs hb6e hX)
  generalize ((((((((((((w2.setCell ⟨b4, 0, none⟩ (.int .i64 0)).setCell ⟨b4, 1, none⟩ (.int .i64 0)).setCell ⟨b4, 2, none⟩ (.string ⟨#[]⟩)).setCell ⟨b4, 3, none⟩ (.string ⟨#[]⟩)).setCell ⟨b4, 4, none⟩ (.slice none 0 0)).setCell ⟨b4, 5, none⟩ (.slice none 0 0)).setCell ⟨b4, 6, none⟩ (.int .i64 0)).setCell ⟨b4, 7, none⟩ (.int .i64 0)).setCell ⟨b4, 8, none⟩ (.int .i64 0)).setCell ⟨b4, 9, none⟩ (.bool false)).setCell ⟨b4, 10, none⟩ (.bool false)).setCell ⟨b4, 11, none⟩ (.slice none 0 0)) = wz at *
  refine bodyPost_ret (results_cell_row_tmp48 rfl _ _ b4 #[.int .i64 0, .int .i64 0, .string ⟨#[]⟩, .string ⟨#[]⟩, .slice none 0 0, .slice none 0 0, .int .i64 0, .int .i64 0, .int .i64 0, .bool false, .bool false, .slice none 0 0] (by rfl) (run_loadVar_row _ b4 40 40 _ _ _ hbf Tryd.underlying40 rfl (by kernel_rfl))) rfl ?_
  exact ⟨_, rfl, do_fin0 HXX.out HCS.out HC1.out HW6E.out (fun k => ⟨fun x => (HX6.out k).2 (.inl x), fun e => (HX6.out k).2 (.inr (.inr e))⟩) (by have := HB0.out; have := HB4E.out; omega) (by have := HB4E.out; omega) HB0.out.2⟩
set_option maxHeartbeats 3200000 in
set_option maxRecDepth 100000 in
theorem do_repl_no (w0 : Past) (w : World) (b : Nat) (h : Hist) (vl vs : Value) (rs : List EntR) (o : COp) (sn sp : Option Addr) (nn cn np cp : Nat) (H : HiAt w0 w b h vl vs rs) (B : DoB w0 h o w sn sp nn cn np cp) (hk : (o.kind : Int) % 7 = 2) (ha : allowedB o.msg = false) :
    Calls Tryd.prog 15 #[.pointer (some ⟨b, 0, none⟩), .agg #[.int .u8 (o.kind : Int), .string o.url, .bool o.keep, .int .i8 o.delta, .slice sn nn cn, .slice sp np cp]] w fun z w' => ∃ zv, z = .returned (.tuple #[zv, .int .i64 (1)]) ∧ OpV w0 w b (Mut b vl vs) (h) (Mv0) zv w' := by
  obtain ⟨w06, hw6e, hx6, H1⟩ := H.beside2 (.cells #[.int .u8 (o.kind : Int), .string o.url, .bool o.keep, .int .i8 o.delta, .slice sn nn cn, .slice sp np cp] 38) (.cells #[.int .i64 0, .int .i64 0, .string ⟨#[]⟩, .string ⟨#[]⟩, .slice none 0 0, .slice none 0 0, .int .i64 0, .int .i64 0, .int .i64 0, .bool false, .bool false, .slice none 0 0] 40)
  have hb4 := alloc_block (w.alloc (.cells #[.int .u8 (o.kind : Int), .string o.url, .bool o.keep, .int .i8 o.delta, .slice sn nn cn, .slice sp np cp] 38)) (.cells #[.int .i64 0, .int .i64 0, .string ⟨#[]⟩, .string ⟨#[]⟩, .slice none 0 0, .slice none 0 0, .int .i64 0, .int .i64 0, .int .i64 0, .bool false, .bool false, .slice none 0 0] 40)
  rw [World.size_alloc] at hb4
  have HB4 := Lib.hid hb4
  have HB3 := Lib.hid (alloc_old (.cells #[.int .i64 0, .int .i64 0, .string ⟨#[]⟩, .string ⟨#[]⟩, .slice none 0 0, .slice none 0 0, .int .i64 0, .int .i64 0, .int .i64 0, .bool false, .bool false, .slice none 0 0] 40) (alloc_block w (.cells #[.int .u8 (o.kind : Int), .string o.url, .bool o.keep, .int .i8 o.delta, .slice sn nn cn, .slice sp np cp] 38)))
  have hC1 := (Chg.alloc (fun _ => False) w (.cells #[.int .u8 (o.kind : Int), .string o.url, .bool o.keep, .int .i8 o.delta, .slice sn nn cn, .slice sp np cp] 38)).allocR (.cells #[.int .i64 0, .int .i64 0, .string ⟨#[]⟩, .string ⟨#[]⟩, .slice none 0 0, .slice none 0 0, .int .i64 0, .int .i64 0, .int .i64 0, .bool false, .bool false, .slice none 0 0] 40)
  have HB0 : Hid (w0.heap.size ≤ w.heap.size ∧ w.heap.size + 1 < ((w.alloc (.cells #[.int .u8 (o.kind : Int), .string o.url, .bool o.keep, .int .i8 o.delta, .slice sn nn cn, .slice sp np cp] 38)).alloc (.cells #[.int .i64 0, .int .i64 0, .string ⟨#[]⟩, .string ⟨#[]⟩, .slice none 0 0, .slice none 0 0, .int .i64 0, .int .i64 0, .int .i64 0, .bool false, .bool false, .slice none 0 0] 40)).heap.size) := Lib.hid ⟨H.chg.size, by rw [World.size_alloc, World.size_alloc]; omega⟩
  have HMLT := Lib.hid H.mutLt
  have hU6 : Lib.Utf8Tabs 0 1 w06.toWorld := by rw [hw6e]; exact B.tabs
  have hm6 : MsgAt (fun k => w06.heap.size ≤ k) ((w.alloc (.cells #[.int .u8 (o.kind : Int), .string o.url, .bool o.keep, .int .i8 o.delta, .slice sn nn cn, .slice sp np cp] 38)).alloc (.cells #[.int .i64 0, .int .i64 0, .string ⟨#[]⟩, .string ⟨#[]⟩, .slice none 0 0, .slice none 0 0, .int .i64 0, .int .i64 0, .int .i64 0, .bool false, .bool false, .slice none 0 0] 40)) (.slice sn nn cn) (.slice sp np cp) o.msg := by
    rw [hw6e]; exact B.msg.chg hC1 (fun _ _ x => x.elim) (fun _ _ x => x)
  have HC := Lib.hid (replace_no w06 _ b h vl vs rs H1 hU6 o.url o.msg sn sp nn cn np cp hm6 B.fit ha)
  have HW6E := Lib.hid hw6e
  have HX6 := Lib.hid hx6
  have HC1 := Lib.hid hC1
  have wk : IntKind.i64.wrap (o.kind : Int) = (o.kind : Int) := IntWalk.i64_in _ (by have := B.kind; omega)
  have wd : IntKind.i64.wrap o.delta = o.delta := IntWalk.i64_in _ (by have := B.delta; omega)
  have l0 := cell_of_block (i := 0) HB3.out rfl
  have l1 := cell_of_block (i := 1) HB3.out rfl
  have l2 := cell_of_block (i := 2) HB3.out rfl
  have l3 := cell_of_block (i := 3) HB3.out rfl
  have l4 := cell_of_block (i := 4) HB3.out rfl
  have l5 := cell_of_block (i := 5) HB3.out rfl
  simp only [List.getElem_toArray, List.getElem_cons_zero, List.getElem_cons_succ] at l0 l1 l2 l3 l4 l5
  clear ha
  clear H H1 B hb4 hC1 hU6 hm6 hw6e hx6
  go_enter Tryd.func15, Tryd.ntmps15
  go_upto_region 1 with fail
  generalize (w.alloc (.cells #[.int .u8 (o.kind : Int), .string o.url, .bool o.keep, .int .i8 o.delta, .slice sn nn cn, .slice sp np cp] 38)).alloc (.cells #[.int .i64 0, .int .i64 0, .string ⟨#[]⟩, .string ⟨#[]⟩, .slice none 0 0, .slice none 0 0, .int .i64 0, .int .i64 0, .int .i64 0, .bool false, .bool false, .slice none 0 0] 40) = w1 at *
  generalize hb4e : w.heap.size + 1 = b4 at HB4 HB0 HX6 ⊢
  generalize hb3e : w.heap.size = b3 at HB3 l0 l1 l2 l3 l4 l5 HX6 ⊢
  have HB4E := Lib.hid hb4e
  clear hb4e hb3e
  have HZ : Hid (∀ w2, Chg (Mut b vl vs) w1 w2 → w2.heap[b4]? = some (.cells #[.int .i64 0, .int .i64 0, .string ⟨#[]⟩, .string ⟨#[]⟩, .slice none 0 0, .slice none 0 0, .int .i64 0, .int .i64 0, .int .i64 0, .bool false, .bool false, .slice none 0 0] 40 (0, 0))) := Lib.hid (fun w2 hc => hc.keep HB4.out (fun x => by have := HMLT.out b4 x; have := HB4E.out; omega))
  go_wp2_with (go_at_call 25; refine HC.out.mono ?_; rintro _ w2 ⟨rfl, hX⟩; have HXX := Lib.hid hX; have hb6e := HZ.out w2 hX.chg; obtain ⟨z0, q0, z1, q1, z2, q2, z3, q3, z4, q4, z5, q5, z6, q6, z7, q7, z8, q8, z9, q9, z10, q10, z11, q11, hbf, hcs⟩ := store12 hb6e (.int .i64 0) (.int .i64 0) (.string ⟨#[]⟩) (.string ⟨#[]⟩) (.slice none 0 0) (.slice none 0 0) (.int .i64 0) (.int .i64 0) (.int .i64 0) (.bool false) (.bool false) (.slice none 0 0); have HCS := Lib.hid hcs; clear hcs hb6e hX)
  generalize ((((((((((((w2.setCell ⟨b4, 0, none⟩ (.int .i64 0)).setCell ⟨b4, 1, none⟩ (.int .i64 0)).setCell ⟨b4, 2, none⟩ (.string ⟨#[]⟩)).setCell ⟨b4, 3, none⟩ (.string ⟨#[]⟩)).setCell ⟨b4, 4, none⟩ (.slice none 0 0)).setCell ⟨b4, 5, none⟩ (.slice none 0 0)).setCell ⟨b4, 6, none⟩ (.int .i64 0)).setCell ⟨b4, 7, none⟩ (.int .i64 0)).setCell ⟨b4, 8, none⟩ (.int .i64 0)).setCell ⟨b4, 9, none⟩ (.bool false)).setCell ⟨b4, 10, none⟩ (.bool false)).setCell ⟨b4, 11, none⟩ (.slice none 0 0)) = wz at *
  refine bodyPost_ret (results_cell_row_tmp48 rfl _ _ b4 #[.int .i64 0, .int .i64 0, .string ⟨#[]⟩, .string ⟨#[]⟩, .slice none 0 0, .slice none 0 0, .int .i64 0, .int .i64 0, .int .i64 0, .bool false, .bool false, .slice none 0 0] (by rfl) (run_loadVar_row _ b4 40 40 _ _ _ hbf Tryd.underlying40 rfl (by kernel_rfl))) rfl ?_
  exact ⟨_, rfl, do_fin0 HXX.out HCS.out HC1.out HW6E.out (fun k => ⟨fun x => (HX6.out k).2 (.inl x), fun e => (HX6.out k).2 (.inr (.inr e))⟩) (by have := HB0.out; have := HB4E.out; omega) (by have := HB4E.out; omega) HB0.out.2⟩
set_option maxHeartbeats 3200000 in
set_option maxRecDepth 100000 in
theorem do_go (w0 : Past) (w : World) (b : Nat) (h : Hist) (vl vs : Value) (rs : List EntR) (o : COp) (sn sp : Option Addr) (nn cn np cp : Nat) (H : HiAt w0 w b h vl vs rs) (B : DoB w0 h o w sn sp nn cn np cp) (hk : (o.kind : Int) % 7 = 3) (hd : GoOk h o.delta) :
    Calls Tryd.prog 15 #[.pointer (some ⟨b, 0, none⟩), .agg #[.int .u8 (o.kind : Int), .string o.url, .bool o.keep, .int .i8 o.delta, .slice sn nn cn, .slice sp np cp]] w fun z w' => ∃ zv, z = .returned (.tuple #[zv, .int .i64 (0)]) ∧ OpV w0 w b (Mut b vl vs) (goM h o.delta) (goV h o.delta) zv w' := by
  obtain ⟨w06, hw6e, hx6, H1⟩ := H.beside2 (.cells #[.int .u8 (o.kind : Int), .string o.url, .bool o.keep, .int .i8 o.delta, .slice sn nn cn, .slice sp np cp] 38) (.cells #[.int .i64 0, .int .i64 0, .string ⟨#[]⟩, .string ⟨#[]⟩, .slice none 0 0, .slice none 0 0, .int .i64 0, .int .i64 0, .int .i64 0, .bool false, .bool false, .slice none 0 0] 40)
  have hb4 := alloc_block (w.alloc (.cells #[.int .u8 (o.kind : Int), .string o.url, .bool o.keep, .int .i8 o.delta, .slice sn nn cn, .slice sp np cp] 38)) (.cells #[.int .i64 0, .int .i64 0, .string ⟨#[]⟩, .string ⟨#[]⟩, .slice none 0 0, .slice none 0 0, .int .i64 0, .int .i64 0, .int .i64 0, .bool false, .bool false, .slice none 0 0] 40)
  rw [World.size_alloc] at hb4
  have HB4 := Lib.hid hb4
  have HB3 := Lib.hid (alloc_old (.cells #[.int .i64 0, .int .i64 0, .string ⟨#[]⟩, .string ⟨#[]⟩, .slice none 0 0, .slice none 0 0, .int .i64 0, .int .i64 0, .int .i64 0, .bool false, .bool false, .slice none 0 0] 40) (alloc_block w (.cells #[.int .u8 (o.kind : Int), .string o.url, .bool o.keep, .int .i8 o.delta, .slice sn nn cn, .slice sp np cp] 38)))
  have hC1 := (Chg.alloc (fun _ => False) w (.cells #[.int .u8 (o.kind : Int), .string o.url, .bool o.keep, .int .i8 o.delta, .slice sn nn cn, .slice sp np cp] 38)).allocR (.cells #[.int .i64 0, .int .i64 0, .string ⟨#[]⟩, .string ⟨#[]⟩, .slice none 0 0, .slice none 0 0, .int .i64 0, .int .i64 0, .int .i64 0, .bool false, .bool false, .slice none 0 0] 40)
  have HB0 : Hid (w0.heap.size ≤ w.heap.size ∧ w.heap.size + 1 < ((w.alloc (.cells #[.int .u8 (o.kind : Int), .string o.url, .bool o.keep, .int .i8 o.delta, .slice sn nn cn, .slice sp np cp] 38)).alloc (.cells #[.int .i64 0, .int .i64 0, .string ⟨#[]⟩, .string ⟨#[]⟩, .slice none 0 0, .slice none 0 0, .int .i64 0, .int .i64 0, .int .i64 0, .bool false, .bool false, .slice none 0 0] 40)).heap.size) := Lib.hid ⟨H.chg.size, by rw [World.size_alloc, World.size_alloc]; omega⟩
  have HMLT := Lib.hid H.mutLt
  have hU6 : Lib.Utf8Tabs 0 1 w06.toWorld := by rw [hw6e]; exact B.tabs
  have hm6 : MsgAt (fun k => w06.heap.size ≤ k) ((w.alloc (.cells #[.int .u8 (o.kind : Int), .string o.url, .bool o.keep, .int .i8 o.delta, .slice sn nn cn, .slice sp np cp] 38)).alloc (.cells #[.int .i64 0, .int .i64 0, .string ⟨#[]⟩, .string ⟨#[]⟩, .slice none 0 0, .slice none 0 0, .int .i64 0, .int .i64 0, .int .i64 0, .bool false, .bool false, .slice none 0 0] 40)) (.slice sn nn cn) (.slice sp np cp) o.msg := by
    rw [hw6e]; exact B.msg.chg hC1 (fun _ _ x => x.elim) (fun _ _ x => x)
  have HC := Lib.hid (go_any w06 _ b h vl vs rs H1 o.delta hd (by have := B.hok.len; omega) (by have := B.hok.slp; omega))
  have HW6E := Lib.hid hw6e
  have HX6 := Lib.hid hx6
  have HC1 := Lib.hid hC1
  have wk : IntKind.i64.wrap (o.kind : Int) = (o.kind : Int) := IntWalk.i64_in _ (by have := B.kind; omega)
  have wd : IntKind.i64.wrap o.delta = o.delta := IntWalk.i64_in _ (by have := B.delta; omega)
  have l0 := cell_of_block (i := 0) HB3.out rfl
  have l1 := cell_of_block (i := 1) HB3.out rfl
  have l2 := cell_of_block (i := 2) HB3.out rfl
  have l3 := cell_of_block (i := 3) HB3.out rfl
  have l4 := cell_of_block (i := 4) HB3.out rfl
  have l5 := cell_of_block (i := 5) HB3.out rfl
  simp only [List.getElem_toArray, List.getElem_cons_zero, List.getElem_cons_succ] at l0 l1 l2 l3 l4 l5
  clear hd
  clear H H1 B hb4 hC1 hU6 hm6 hw6e hx6
  go_enter Tryd.func15, Tryd.ntmps15
  go_upto_region 1 with fail
  generalize (w.alloc (.cells #[.int .u8 (o.kind : Int), .string o.url, .bool o.keep, .int .i8 o.delta, .slice sn nn cn, .slice sp np cp] 38)).alloc (.cells #[.int .i64 0, .int .i64 0, .string ⟨#[]⟩, .string ⟨#[]⟩, .slice none 0 0, .slice none 0 0, .int .i64 0, .int .i64 0, .int .i64 0, .bool false, .bool false, .slice none 0 0] 40) = w1 at *
  generalize hb4e : w.heap.size + 1 = b4 at HB4 HB0 HX6 ⊢
  generalize hb3e : w.heap.size = b3 at HB3 l0 l1 l2 l3 l4 l5 HX6 ⊢
  have HB4E := Lib.hid hb4e
  clear hb4e hb3e
  have HZ : Hid (∀ w2, Chg (Mut b vl vs) w1 w2 → w2.heap[b4]? = some (.cells #[.int .i64 0, .int .i64 0, .string ⟨#[]⟩, .string ⟨#[]⟩, .slice none 0 0, .slice none 0 0, .int .i64 0, .int .i64 0, .int .i64 0, .bool false, .bool false, .slice none 0 0] 40 (0, 0))) := Lib.hid (fun w2 hc => hc.keep HB4.out (fun x => by have := HMLT.out b4 x; have := HB4E.out; omega))
  generalize hMV : goV h o.delta = M at HC
  have HMV := Lib.hid hMV
  clear hMV
  go_wp2_with (go_at_call 20; refine HC.out.mono ?_; rintro _ w2 ⟨zv, rfl, hX⟩; obtain ⟨vl2, vs2, rs2, h2, hc2, hm2, vn2, vp2, vc2, rfl, hms2, hrow2, hown2⟩ := hX; obtain ⟨⟨rn, rn2, rc, rfl⟩, rp, rp2, rc2, rfl⟩ := hms2.vals; obtain ⟨ra, ra3, rfl, -, -⟩ := hrow2.slice; have HXX := Lib.hid (show OpV w06 w1 b (Mut b vl vs) _ M _ w2 from ⟨vl2, vs2, rs2, h2, hc2, hm2, _, _, _, rfl, hms2, hrow2, hown2⟩); have hb6e := HZ.out w2 hc2; unfold MvC; obtain ⟨z0, q0, z1, q1, z2, q2, z3, q3, z4, q4, z5, q5, z6, q6, z7, q7, z8, q8, z9, q9, z10, q10, z11, q11, hbf, hcs⟩ := store12 hb6e (.int .i64 M.entry.id) (.int .i64 M.entry.page) (.string M.entry.url) (.string M.entry.title) (.slice rn rn2 rc) (.slice rp rp2 rc2) (.int .i64 M.entry.x) (.int .i64 M.entry.y) (.int .i64 M.page) (.bool M.awake) (.bool M.sleeps) (.slice ra M.closed.length ra3); have HCS := Lib.hid hcs; clear hcs hb6e h2 hc2 hm2 hms2 hrow2 hown2)
  generalize ((((((((((((w2.setCell ⟨b4, 0, none⟩ (.int .i64 M.entry.id)).setCell ⟨b4, 1, none⟩ (.int .i64 M.entry.page)).setCell ⟨b4, 2, none⟩ (.string M.entry.url)).setCell ⟨b4, 3, none⟩ (.string M.entry.title)).setCell ⟨b4, 4, none⟩ (.slice rn rn2 rc)).setCell ⟨b4, 5, none⟩ (.slice rp rp2 rc2)).setCell ⟨b4, 6, none⟩ (.int .i64 M.entry.x)).setCell ⟨b4, 7, none⟩ (.int .i64 M.entry.y)).setCell ⟨b4, 8, none⟩ (.int .i64 M.page)).setCell ⟨b4, 9, none⟩ (.bool M.awake)).setCell ⟨b4, 10, none⟩ (.bool M.sleeps)).setCell ⟨b4, 11, none⟩ (.slice ra M.closed.length ra3)) = wz at *
  refine bodyPost_ret (results_cell_row_tmp48 rfl _ _ b4 #[.int .i64 M.entry.id, .int .i64 M.entry.page, .string M.entry.url, .string M.entry.title, .slice rn rn2 rc, .slice rp rp2 rc2, .int .i64 M.entry.x, .int .i64 M.entry.y, .int .i64 M.page, .bool M.awake, .bool M.sleeps, .slice ra M.closed.length ra3] (by rfl) (run_loadVar_row _ b4 40 40 _ _ _ hbf Tryd.underlying40 rfl (by kernel_rfl))) rfl ?_
  rw [HMV.out]
  exact ⟨_, rfl, do_fin HXX.out HCS.out HC1.out HW6E.out (fun k => ⟨fun x => (HX6.out k).2 (.inl x), fun e => (HX6.out k).2 (.inr (.inr e))⟩) (by have := HB0.out; have := HB4E.out; omega) (by have := HB4E.out; omega) HB0.out.2⟩
set_option maxHeartbeats 3200000 in
set_option maxRecDepth 100000 in
theorem do_go_no (w0 : Past) (w : World) (b : Nat) (h : Hist) (vl vs : Value) (rs : List EntR) (o : COp) (sn sp : Option Addr) (nn cn np cp : Nat) (H : HiAt w0 w b h vl vs rs) (B : DoB w0 h o w sn sp nn cn np cp) (hk : (o.kind : Int) % 7 = 3) (hd : ¬ GoOk h o.delta) :
    Calls Tryd.prog 15 #[.pointer (some ⟨b, 0, none⟩), .agg #[.int .u8 (o.kind : Int), .string o.url, .bool o.keep, .int .i8 o.delta, .slice sn nn cn, .slice sp np cp]] w fun z w' => ∃ zv, z = .returned (.tuple #[zv, .int .i64 (2)]) ∧ OpV w0 w b (Mut b vl vs) (h) (Mv0) zv w' := by
  obtain ⟨w06, hw6e, hx6, H1⟩ := H.beside2 (.cells #[.int .u8 (o.kind : Int), .string o.url, .bool o.keep, .int .i8 o.delta, .slice sn nn cn, .slice sp np cp] 38) (.cells #[.int .i64 0, .int .i64 0, .string ⟨#[]⟩, .string ⟨#[]⟩, .slice none 0 0, .slice none 0 0, .int .i64 0, .int .i64 0, .int .i64 0, .bool false, .bool false, .slice none 0 0] 40)
  have hb4 := alloc_block (w.alloc (.cells #[.int .u8 (o.kind : Int), .string o.url, .bool o.keep, .int .i8 o.delta, .slice sn nn cn, .slice sp np cp] 38)) (.cells #[.int .i64 0, .int .i64 0, .string ⟨#[]⟩, .string ⟨#[]⟩, .slice none 0 0, .slice none 0 0, .int .i64 0, .int .i64 0, .int .i64 0, .bool false, .bool false, .slice none 0 0] 40)
  rw [World.size_alloc] at hb4
  have HB4 := Lib.hid hb4
  have HB3 := Lib.hid (alloc_old (.cells #[.int .i64 0, .int .i64 0, .string ⟨#[]⟩, .string ⟨#[]⟩, .slice none 0 0, .slice none 0 0, .int .i64 0, .int .i64 0, .int .i64 0, .bool false, .bool false, .slice none 0 0] 40) (alloc_block w (.cells #[.int .u8 (o.kind : Int), .string o.url, .bool o.keep, .int .i8 o.delta, .slice sn nn cn, .slice sp np cp] 38)))
  have hC1 := (Chg.alloc (fun _ => False) w (.cells #[.int .u8 (o.kind : Int), .string o.url, .bool o.keep, .int .i8 o.delta, .slice sn nn cn, .slice sp np cp] 38)).allocR (.cells #[.int .i64 0, .int .i64 0, .string ⟨#[]⟩, .string ⟨#[]⟩, .slice none 0 0, .slice none 0 0, .int .i64 0, .int .i64 0, .int .i64 0, .bool false, .bool false, .slice none 0 0] 40)
  have HB0 : Hid (w0.heap.size ≤ w.heap.size ∧ w.heap.size + 1 < ((w.alloc (.cells #[.int .u8 (o.kind : Int), .string o.url, .bool o.keep, .int .i8 o.delta, .slice sn nn cn, .slice sp np cp] 38)).alloc (.cells #[.int .i64 0, .int .i64 0, .string ⟨#[]⟩, .string ⟨#[]⟩, .slice none 0 0, .slice none 0 0, .int .i64 0, .int .i64 0, .int .i64 0, .bool false, .bool false, .slice none 0 0] 40)).heap.size) := Lib.hid ⟨H.chg.size, by rw [World.size_alloc, World.size_alloc]; omega⟩
  have HMLT := Lib.hid H.mutLt
  have hU6 : Lib.Utf8Tabs 0 1 w06.toWorld := by rw [hw6e]; exact B.tabs
  have hm6 : MsgAt (fun k => w06.heap.size ≤ k) ((w.alloc (.cells #[.int .u8 (o.kind : Int), .string o.url, .bool o.keep, .int .i8 o.delta, .slice sn nn cn, .slice sp np cp] 38)).alloc (.cells #[.int .i64 0, .int .i64 0, .string ⟨#[]⟩, .string ⟨#[]⟩, .slice none 0 0, .slice none 0 0, .int .i64 0, .int .i64 0, .int .i64 0, .bool false, .bool false, .slice none 0 0] 40)) (.slice sn nn cn) (.slice sp np cp) o.msg := by
    rw [hw6e]; exact B.msg.chg hC1 (fun _ _ x => x.elim) (fun _ _ x => x)
  have HC := Lib.hid (go_bad w06 _ b h vl vs rs H1 o.delta hd (by have := B.hok.len; omega))
  have HW6E := Lib.hid hw6e
  have HX6 := Lib.hid hx6
  have HC1 := Lib.hid hC1
  have wk : IntKind.i64.wrap (o.kind : Int) = (o.kind : Int) := IntWalk.i64_in _ (by have := B.kind; omega)
  have wd : IntKind.i64.wrap o.delta = o.delta := IntWalk.i64_in _ (by have := B.delta; omega)
  have l0 := cell_of_block (i := 0) HB3.out rfl
  have l1 := cell_of_block (i := 1) HB3.out rfl
  have l2 := cell_of_block (i := 2) HB3.out rfl
  have l3 := cell_of_block (i := 3) HB3.out rfl
  have l4 := cell_of_block (i := 4) HB3.out rfl
  have l5 := cell_of_block (i := 5) HB3.out rfl
  simp only [List.getElem_toArray, List.getElem_cons_zero, List.getElem_cons_succ] at l0 l1 l2 l3 l4 l5
  clear hd
  clear H H1 B hb4 hC1 hU6 hm6 hw6e hx6
  go_enter Tryd.func15, Tryd.ntmps15
  go_upto_region 1 with fail
  generalize (w.alloc (.cells #[.int .u8 (o.kind : Int), .string o.url, .bool o.keep, .int .i8 o.delta, .slice sn nn cn, .slice sp np cp] 38)).alloc (.cells #[.int .i64 0, .int .i64 0, .string ⟨#[]⟩, .string ⟨#[]⟩, .slice none 0 0, .slice none 0 0, .int .i64 0, .int .i64 0, .int .i64 0, .bool false, .bool false, .slice none 0 0] 40) = w1 at *
  generalize hb4e : w.heap.size + 1 = b4 at HB4 HB0 HX6 ⊢
  generalize hb3e : w.heap.size = b3 at HB3 l0 l1 l2 l3 l4 l5 HX6 ⊢
  have HB4E := Lib.hid hb4e
  clear hb4e hb3e
  have HZ : Hid (∀ w2, Chg (Mut b vl vs) w1 w2 → w2.heap[b4]? = some (.cells #[.int .i64 0, .int .i64 0, .string ⟨#[]⟩, .string ⟨#[]⟩, .slice none 0 0, .slice none 0 0, .int .i64 0, .int .i64 0, .int .i64 0, .bool false, .bool false, .slice none 0 0] 40 (0, 0))) := Lib.hid (fun w2 hc => hc.keep HB4.out (fun x => by have := HMLT.out b4 x; have := HB4E.out; omega))
  generalize hMV : Mv0 = M at HC
  have HMV := Lib.hid hMV
  clear hMV
  go_wp2_with (go_at_call 20; refine HC.out.mono ?_; rintro _ w2 ⟨zv, rfl, hX⟩; obtain ⟨vl2, vs2, rs2, h2, hc2, hm2, vn2, vp2, vc2, rfl, hms2, hrow2, hown2⟩ := hX; obtain ⟨⟨rn, rn2, rc, rfl⟩, rp, rp2, rc2, rfl⟩ := hms2.vals; obtain ⟨ra, ra3, rfl, -, -⟩ := hrow2.slice; have HXX := Lib.hid (show OpV w06 w1 b (Mut b vl vs) _ M _ w2 from ⟨vl2, vs2, rs2, h2, hc2, hm2, _, _, _, rfl, hms2, hrow2, hown2⟩); have hb6e := HZ.out w2 hc2; unfold MvC; obtain ⟨z0, q0, z1, q1, z2, q2, z3, q3, z4, q4, z5, q5, z6, q6, z7, q7, z8, q8, z9, q9, z10, q10, z11, q11, hbf, hcs⟩ := store12 hb6e (.int .i64 M.entry.id) (.int .i64 M.entry.page) (.string M.entry.url) (.string M.entry.title) (.slice rn rn2 rc) (.slice rp rp2 rc2) (.int .i64 M.entry.x) (.int .i64 M.entry.y) (.int .i64 M.page) (.bool M.awake) (.bool M.sleeps) (.slice ra M.closed.length ra3); have HCS := Lib.hid hcs; clear hcs hb6e h2 hc2 hm2 hms2 hrow2 hown2)
  generalize ((((((((((((w2.setCell ⟨b4, 0, none⟩ (.int .i64 M.entry.id)).setCell ⟨b4, 1, none⟩ (.int .i64 M.entry.page)).setCell ⟨b4, 2, none⟩ (.string M.entry.url)).setCell ⟨b4, 3, none⟩ (.string M.entry.title)).setCell ⟨b4, 4, none⟩ (.slice rn rn2 rc)).setCell ⟨b4, 5, none⟩ (.slice rp rp2 rc2)).setCell ⟨b4, 6, none⟩ (.int .i64 M.entry.x)).setCell ⟨b4, 7, none⟩ (.int .i64 M.entry.y)).setCell ⟨b4, 8, none⟩ (.int .i64 M.page)).setCell ⟨b4, 9, none⟩ (.bool M.awake)).setCell ⟨b4, 10, none⟩ (.bool M.sleeps)).setCell ⟨b4, 11, none⟩ (.slice ra M.closed.length ra3)) = wz at *
  refine bodyPost_ret (results_cell_row_tmp48 rfl _ _ b4 #[.int .i64 M.entry.id, .int .i64 M.entry.page, .string M.entry.url, .string M.entry.title, .slice rn rn2 rc, .slice rp rp2 rc2, .int .i64 M.entry.x, .int .i64 M.entry.y, .int .i64 M.page, .bool M.awake, .bool M.sleeps, .slice ra M.closed.length ra3] (by rfl) (run_loadVar_row _ b4 40 40 _ _ _ hbf Tryd.underlying40 rfl (by kernel_rfl))) rfl ?_
  rw [HMV.out]
  exact ⟨_, rfl, do_fin HXX.out HCS.out HC1.out HW6E.out (fun k => ⟨fun x => (HX6.out k).2 (.inl x), fun e => (HX6.out k).2 (.inr (.inr e))⟩) (by have := HB0.out; have := HB4E.out; omega) (by have := HB4E.out; omega) HB0.out.2⟩
set_option maxHeartbeats 3200000 in
set_option maxRecDepth 100000 in
theorem do_scroll (w0 : Past) (w : World) (b : Nat) (h : Hist) (vl vs : Value) (rs : List EntR) (o : COp) (sn sp : Option Addr) (nn cn np cp : Nat) (H : HiAt w0 w b h vl vs rs) (B : DoB w0 h o w sn sp nn cn np cp) (hk : (o.kind : Int) % 7 = 4) :
    Calls Tryd.prog 15 #[.pointer (some ⟨b, 0, none⟩), .agg #[.int .u8 (o.kind : Int), .string o.url, .bool o.keep, .int .i8 o.delta, .slice sn nn cn, .slice sp np cp]] w fun z w' => ∃ zv, z = .returned (.tuple #[zv, .int .i64 (0)]) ∧ OpV w0 w b (Mut b vl vs) (scrollM h o.delta o.url.size) (Mv0) zv w' := by
  obtain ⟨w06, hw6e, hx6, H1⟩ := H.beside2 (.cells #[.int .u8 (o.kind : Int), .string o.url, .bool o.keep, .int .i8 o.delta, .slice sn nn cn, .slice sp np cp] 38) (.cells #[.int .i64 0, .int .i64 0, .string ⟨#[]⟩, .string ⟨#[]⟩, .slice none 0 0, .slice none 0 0, .int .i64 0, .int .i64 0, .int .i64 0, .bool false, .bool false, .slice none 0 0] 40)
  have hb4 := alloc_block (w.alloc (.cells #[.int .u8 (o.kind : Int), .string o.url, .bool o.keep, .int .i8 o.delta, .slice sn nn cn, .slice sp np cp] 38)) (.cells #[.int .i64 0, .int .i64 0, .string ⟨#[]⟩, .string ⟨#[]⟩, .slice none 0 0, .slice none 0 0, .int .i64 0, .int .i64 0, .int .i64 0, .bool false, .bool false, .slice none 0 0] 40)
  rw [World.size_alloc] at hb4
  have HB4 := Lib.hid hb4
  have HB3 := Lib.hid (alloc_old (.cells #[.int .i64 0, .int .i64 0, .string ⟨#[]⟩, .string ⟨#[]⟩, .slice none 0 0, .slice none 0 0, .int .i64 0, .int .i64 0, .int .i64 0, .bool false, .bool false, .slice none 0 0] 40) (alloc_block w (.cells #[.int .u8 (o.kind : Int), .string o.url, .bool o.keep, .int .i8 o.delta, .slice sn nn cn, .slice sp np cp] 38)))
  have hC1 := (Chg.alloc (fun _ => False) w (.cells #[.int .u8 (o.kind : Int), .string o.url, .bool o.keep, .int .i8 o.delta, .slice sn nn cn, .slice sp np cp] 38)).allocR (.cells #[.int .i64 0, .int .i64 0, .string ⟨#[]⟩, .string ⟨#[]⟩, .slice none 0 0, .slice none 0 0, .int .i64 0, .int .i64 0, .int .i64 0, .bool false, .bool false, .slice none 0 0] 40)
  have HB0 : Hid (w0.heap.size ≤ w.heap.size ∧ w.heap.size + 1 < ((w.alloc (.cells #[.int .u8 (o.kind : Int), .string o.url, .bool o.keep, .int .i8 o.delta, .slice sn nn cn, .slice sp np cp] 38)).alloc (.cells #[.int .i64 0, .int .i64 0, .string ⟨#[]⟩, .string ⟨#[]⟩, .slice none 0 0, .slice none 0 0, .int .i64 0, .int .i64 0, .int .i64 0, .bool false, .bool false, .slice none 0 0] 40)).heap.size) := Lib.hid ⟨H.chg.size, by rw [World.size_alloc, World.size_alloc]; omega⟩
  have HMLT := Lib.hid H.mutLt
  have hU6 : Lib.Utf8Tabs 0 1 w06.toWorld := by rw [hw6e]; exact B.tabs
  have hm6 : MsgAt (fun k => w06.heap.size ≤ k) ((w.alloc (.cells #[.int .u8 (o.kind : Int), .string o.url, .bool o.keep, .int .i8 o.delta, .slice sn nn cn, .slice sp np cp] 38)).alloc (.cells #[.int .i64 0, .int .i64 0, .string ⟨#[]⟩, .string ⟨#[]⟩, .slice none 0 0, .slice none 0 0, .int .i64 0, .int .i64 0, .int .i64 0, .bool false, .bool false, .slice none 0 0] 40)) (.slice sn nn cn) (.slice sp np cp) o.msg := by
    rw [hw6e]; exact B.msg.chg hC1 (fun _ _ x => x.elim) (fun _ _ x => x)
  have HC := Lib.hid (scroll_any w06 _ b h vl vs rs H1 o.delta (o.url.size : Int))
  have HW6E := Lib.hid hw6e
  have HX6 := Lib.hid hx6
  have HC1 := Lib.hid hC1
  have wk : IntKind.i64.wrap (o.kind : Int) = (o.kind : Int) := IntWalk.i64_in _ (by have := B.kind; omega)
  have wd : IntKind.i64.wrap o.delta = o.delta := IntWalk.i64_in _ (by have := B.delta; omega)
  have l0 := cell_of_block (i := 0) HB3.out rfl
  have l1 := cell_of_block (i := 1) HB3.out rfl
  have l2 := cell_of_block (i := 2) HB3.out rfl
  have l3 := cell_of_block (i := 3) HB3.out rfl
  have l4 := cell_of_block (i := 4) HB3.out rfl
  have l5 := cell_of_block (i := 5) HB3.out rfl
  simp only [List.getElem_toArray, List.getElem_cons_zero, List.getElem_cons_succ] at l0 l1 l2 l3 l4 l5
  clear H H1 B hb4 hC1 hU6 hm6 hw6e hx6
  go_enter Tryd.func15, Tryd.ntmps15
  go_upto_region 1 with fail
  generalize (w.alloc (.cells #[.int .u8 (o.kind : Int), .string o.url, .bool o.keep, .int .i8 o.delta, .slice sn nn cn, .slice sp np cp] 38)).alloc (.cells #[.int .i64 0, .int .i64 0, .string ⟨#[]⟩, .string ⟨#[]⟩, .slice none 0 0, .slice none 0 0, .int .i64 0, .int .i64 0, .int .i64 0, .bool false, .bool false, .slice none 0 0] 40) = w1 at *
  generalize hb4e : w.heap.size + 1 = b4 at HB4 HB0 HX6 ⊢
  generalize hb3e : w.heap.size = b3 at HB3 l0 l1 l2 l3 l4 l5 HX6 ⊢
  have HB4E := Lib.hid hb4e
  clear hb4e hb3e
  have HZ : Hid (∀ w2, Chg (Mut b vl vs) w1 w2 → w2.heap[b4]? = some (.cells #[.int .i64 0, .int .i64 0, .string ⟨#[]⟩, .string ⟨#[]⟩, .slice none 0 0, .slice none 0 0, .int .i64 0, .int .i64 0, .int .i64 0, .bool false, .bool false, .slice none 0 0] 40 (0, 0))) := Lib.hid (fun w2 hc => hc.keep HB4.out (fun x => by have := HMLT.out b4 x; have := HB4E.out; omega))
  go_upto_region 15 with (go_at_call 27; refine HC.out.mono ?_; rintro _ w2 ⟨rfl, hX⟩; have HXX := Lib.hid hX; have hb6e := HZ.out w2 hX.chg; obtain ⟨z0, q0, z1, q1, z2, q2, z3, q3, z4, q4, z5, q5, z6, q6, z7, q7, z8, q8, z9, q9, z10, q10, z11, q11, hbf, hcs⟩ := store12 hb6e (.int .i64 0) (.int .i64 0) (.string ⟨#[]⟩) (.string ⟨#[]⟩) (.slice none 0 0) (.slice none 0 0) (.int .i64 0) (.int .i64 0) (.int .i64 0) (.bool false) (.bool false) (.slice none 0 0); have HCS := Lib.hid hcs; clear hcs hb6e hX)
  go_wp2_with fail
  generalize ((((((((((((w2.setCell ⟨b4, 0, none⟩ (.int .i64 0)).setCell ⟨b4, 1, none⟩ (.int .i64 0)).setCell ⟨b4, 2, none⟩ (.string ⟨#[]⟩)).setCell ⟨b4, 3, none⟩ (.string ⟨#[]⟩)).setCell ⟨b4, 4, none⟩ (.slice none 0 0)).setCell ⟨b4, 5, none⟩ (.slice none 0 0)).setCell ⟨b4, 6, none⟩ (.int .i64 0)).setCell ⟨b4, 7, none⟩ (.int .i64 0)).setCell ⟨b4, 8, none⟩ (.int .i64 0)).setCell ⟨b4, 9, none⟩ (.bool false)).setCell ⟨b4, 10, none⟩ (.bool false)).setCell ⟨b4, 11, none⟩ (.slice none 0 0)) = wz at *
  refine bodyPost_ret (results_cell_row_tmp48 rfl _ _ b4 #[.int .i64 0, .int .i64 0, .string ⟨#[]⟩, .string ⟨#[]⟩, .slice none 0 0, .slice none 0 0, .int .i64 0, .int .i64 0, .int .i64 0, .bool false, .bool false, .slice none 0 0] (by rfl) (run_loadVar_row _ b4 40 40 _ _ _ hbf Tryd.underlying40 rfl (by kernel_rfl))) rfl ?_
  exact ⟨_, rfl, do_fin0 HXX.out HCS.out HC1.out HW6E.out (fun k => ⟨fun x => (HX6.out k).2 (.inl x), fun e => (HX6.out k).2 (.inr (.inr e))⟩) (by have := HB0.out; have := HB4E.out; omega) (by have := HB4E.out; omega) HB0.out.2⟩
set_option maxHeartbeats 3200000 in
set_option maxRecDepth 100000 in
theorem do_name (w0 : Past) (w : World) (b : Nat) (h : Hist) (vl vs : Value) (rs : List EntR) (o : COp) (sn sp : Option Addr) (nn cn np cp : Nat) (H : HiAt w0 w b h vl vs rs) (B : DoB w0 h o w sn sp nn cn np cp) (hk : (o.kind : Int) % 7 = 5) :
    Calls Tryd.prog 15 #[.pointer (some ⟨b, 0, none⟩), .agg #[.int .u8 (o.kind : Int), .string o.url, .bool o.keep, .int .i8 o.delta, .slice sn nn cn, .slice sp np cp]] w fun z w' => ∃ zv, z = .returned (.tuple #[zv, .int .i64 (0)]) ∧ OpV w0 w b (Mut b vl vs) (nameM h o.url) (Mv0) zv w' := by
  obtain ⟨w06, hw6e, hx6, H1⟩ := H.beside2 (.cells #[.int .u8 (o.kind : Int), .string o.url, .bool o.keep, .int .i8 o.delta, .slice sn nn cn, .slice sp np cp] 38) (.cells #[.int .i64 0, .int .i64 0, .string ⟨#[]⟩, .string ⟨#[]⟩, .slice none 0 0, .slice none 0 0, .int .i64 0, .int .i64 0, .int .i64 0, .bool false, .bool false, .slice none 0 0] 40)
  have hb4 := alloc_block (w.alloc (.cells #[.int .u8 (o.kind : Int), .string o.url, .bool o.keep, .int .i8 o.delta, .slice sn nn cn, .slice sp np cp] 38)) (.cells #[.int .i64 0, .int .i64 0, .string ⟨#[]⟩, .string ⟨#[]⟩, .slice none 0 0, .slice none 0 0, .int .i64 0, .int .i64 0, .int .i64 0, .bool false, .bool false, .slice none 0 0] 40)
  rw [World.size_alloc] at hb4
  have HB4 := Lib.hid hb4
  have HB3 := Lib.hid (alloc_old (.cells #[.int .i64 0, .int .i64 0, .string ⟨#[]⟩, .string ⟨#[]⟩, .slice none 0 0, .slice none 0 0, .int .i64 0, .int .i64 0, .int .i64 0, .bool false, .bool false, .slice none 0 0] 40) (alloc_block w (.cells #[.int .u8 (o.kind : Int), .string o.url, .bool o.keep, .int .i8 o.delta, .slice sn nn cn, .slice sp np cp] 38)))
  have hC1 := (Chg.alloc (fun _ => False) w (.cells #[.int .u8 (o.kind : Int), .string o.url, .bool o.keep, .int .i8 o.delta, .slice sn nn cn, .slice sp np cp] 38)).allocR (.cells #[.int .i64 0, .int .i64 0, .string ⟨#[]⟩, .string ⟨#[]⟩, .slice none 0 0, .slice none 0 0, .int .i64 0, .int .i64 0, .int .i64 0, .bool false, .bool false, .slice none 0 0] 40)
  have HB0 : Hid (w0.heap.size ≤ w.heap.size ∧ w.heap.size + 1 < ((w.alloc (.cells #[.int .u8 (o.kind : Int), .string o.url, .bool o.keep, .int .i8 o.delta, .slice sn nn cn, .slice sp np cp] 38)).alloc (.cells #[.int .i64 0, .int .i64 0, .string ⟨#[]⟩, .string ⟨#[]⟩, .slice none 0 0, .slice none 0 0, .int .i64 0, .int .i64 0, .int .i64 0, .bool false, .bool false, .slice none 0 0] 40)).heap.size) := Lib.hid ⟨H.chg.size, by rw [World.size_alloc, World.size_alloc]; omega⟩
  have HMLT := Lib.hid H.mutLt
  have hU6 : Lib.Utf8Tabs 0 1 w06.toWorld := by rw [hw6e]; exact B.tabs
  have hm6 : MsgAt (fun k => w06.heap.size ≤ k) ((w.alloc (.cells #[.int .u8 (o.kind : Int), .string o.url, .bool o.keep, .int .i8 o.delta, .slice sn nn cn, .slice sp np cp] 38)).alloc (.cells #[.int .i64 0, .int .i64 0, .string ⟨#[]⟩, .string ⟨#[]⟩, .slice none 0 0, .slice none 0 0, .int .i64 0, .int .i64 0, .int .i64 0, .bool false, .bool false, .slice none 0 0] 40)) (.slice sn nn cn) (.slice sp np cp) o.msg := by
    rw [hw6e]; exact B.msg.chg hC1 (fun _ _ x => x.elim) (fun _ _ x => x)
  have HC := Lib.hid (name_any w06 _ b h vl vs rs H1 o.url)
  have HW6E := Lib.hid hw6e
  have HX6 := Lib.hid hx6
  have HC1 := Lib.hid hC1
  have wk : IntKind.i64.wrap (o.kind : Int) = (o.kind : Int) := IntWalk.i64_in _ (by have := B.kind; omega)
  have wd : IntKind.i64.wrap o.delta = o.delta := IntWalk.i64_in _ (by have := B.delta; omega)
  have l0 := cell_of_block (i := 0) HB3.out rfl
  have l1 := cell_of_block (i := 1) HB3.out rfl
  have l2 := cell_of_block (i := 2) HB3.out rfl
  have l3 := cell_of_block (i := 3) HB3.out rfl
  have l4 := cell_of_block (i := 4) HB3.out rfl
  have l5 := cell_of_block (i := 5) HB3.out rfl
  simp only [List.getElem_toArray, List.getElem_cons_zero, List.getElem_cons_succ] at l0 l1 l2 l3 l4 l5
  clear H H1 B hb4 hC1 hU6 hm6 hw6e hx6
  go_enter Tryd.func15, Tryd.ntmps15
  go_upto_region 1 with fail
  generalize (w.alloc (.cells #[.int .u8 (o.kind : Int), .string o.url, .bool o.keep, .int .i8 o.delta, .slice sn nn cn, .slice sp np cp] 38)).alloc (.cells #[.int .i64 0, .int .i64 0, .string ⟨#[]⟩, .string ⟨#[]⟩, .slice none 0 0, .slice none 0 0, .int .i64 0, .int .i64 0, .int .i64 0, .bool false, .bool false, .slice none 0 0] 40) = w1 at *
  generalize hb4e : w.heap.size + 1 = b4 at HB4 HB0 HX6 ⊢
  generalize hb3e : w.heap.size = b3 at HB3 l0 l1 l2 l3 l4 l5 HX6 ⊢
  have HB4E := Lib.hid hb4e
  clear hb4e hb3e
  have HZ : Hid (∀ w2, Chg (Mut b vl vs) w1 w2 → w2.heap[b4]? = some (.cells #[.int .i64 0, .int .i64 0, .string ⟨#[]⟩, .string ⟨#[]⟩, .slice none 0 0, .slice none 0 0, .int .i64 0, .int .i64 0, .int .i64 0, .bool false, .bool false, .slice none 0 0] 40 (0, 0))) := Lib.hid (fun w2 hc => hc.keep HB4.out (fun x => by have := HMLT.out b4 x; have := HB4E.out; omega))
  go_upto_region 15 with (go_at_call 28; refine HC.out.mono ?_; rintro _ w2 ⟨rfl, hX⟩; have HXX := Lib.hid hX; have hb6e := HZ.out w2 hX.chg; obtain ⟨z0, q0, z1, q1, z2, q2, z3, q3, z4, q4, z5, q5, z6, q6, z7, q7, z8, q8, z9, q9, z10, q10, z11, q11, hbf, hcs⟩ := store12 hb6e (.int .i64 0) (.int .i64 0) (.string ⟨#[]⟩) (.string ⟨#[]⟩) (.slice none 0 0) (.slice none 0 0) (.int .i64 0) (.int .i64 0) (.int .i64 0) (.bool false) (.bool false) (.slice none 0 0); have HCS := Lib.hid hcs; clear hcs hb6e hX)
  go_wp2_with fail
  generalize ((((((((((((w2.setCell ⟨b4, 0, none⟩ (.int .i64 0)).setCell ⟨b4, 1, none⟩ (.int .i64 0)).setCell ⟨b4, 2, none⟩ (.string ⟨#[]⟩)).setCell ⟨b4, 3, none⟩ (.string ⟨#[]⟩)).setCell ⟨b4, 4, none⟩ (.slice none 0 0)).setCell ⟨b4, 5, none⟩ (.slice none 0 0)).setCell ⟨b4, 6, none⟩ (.int .i64 0)).setCell ⟨b4, 7, none⟩ (.int .i64 0)).setCell ⟨b4, 8, none⟩ (.int .i64 0)).setCell ⟨b4, 9, none⟩ (.bool false)).setCell ⟨b4, 10, none⟩ (.bool false)).setCell ⟨b4, 11, none⟩ (.slice none 0 0)) = wz at *
  refine bodyPost_ret (results_cell_row_tmp48 rfl _ _ b4 #[.int .i64 0, .int .i64 0, .string ⟨#[]⟩, .string ⟨#[]⟩, .slice none 0 0, .slice none 0 0, .int .i64 0, .int .i64 0, .int .i64 0, .bool false, .bool false, .slice none 0 0] (by rfl) (run_loadVar_row _ b4 40 40 _ _ _ hbf Tryd.underlying40 rfl (by kernel_rfl))) rfl ?_
  exact ⟨_, rfl, do_fin0 HXX.out HCS.out HC1.out HW6E.out (fun k => ⟨fun x => (HX6.out k).2 (.inl x), fun e => (HX6.out k).2 (.inr (.inr e))⟩) (by have := HB0.out; have := HB4E.out; omega) (by have := HB4E.out; omega) HB0.out.2⟩
set_option maxHeartbeats 3200000 in
set_option maxRecDepth 100000 in
theorem do_evict (w0 : Past) (w : World) (b : Nat) (h : Hist) (vl vs : Value) (rs : List EntR) (o : COp) (sn sp : Option Addr) (nn cn np cp : Nat) (H : HiAt w0 w b h vl vs rs) (B : DoB w0 h o w sn sp nn cn np cp) (hk : (o.kind : Int) % 7 = 6) :
    Calls Tryd.prog 15 #[.pointer (some ⟨b, 0, none⟩), .agg #[.int .u8 (o.kind : Int), .string o.url, .bool o.keep, .int .i8 o.delta, .slice sn nn cn, .slice sp np cp]] w fun z w' => ∃ zv, z = .returned (.tuple #[zv, .int .i64 (evictE h o.delta)]) ∧ OpV w0 w b (Mut b vl vs) (evictX h o.delta) (Mv0) zv w' := by
  obtain ⟨w06, hw6e, hx6, H1⟩ := H.beside2 (.cells #[.int .u8 (o.kind : Int), .string o.url, .bool o.keep, .int .i8 o.delta, .slice sn nn cn, .slice sp np cp] 38) (.cells #[.int .i64 0, .int .i64 0, .string ⟨#[]⟩, .string ⟨#[]⟩, .slice none 0 0, .slice none 0 0, .int .i64 0, .int .i64 0, .int .i64 0, .bool false, .bool false, .slice none 0 0] 40)
  have hb4 := alloc_block (w.alloc (.cells #[.int .u8 (o.kind : Int), .string o.url, .bool o.keep, .int .i8 o.delta, .slice sn nn cn, .slice sp np cp] 38)) (.cells #[.int .i64 0, .int .i64 0, .string ⟨#[]⟩, .string ⟨#[]⟩, .slice none 0 0, .slice none 0 0, .int .i64 0, .int .i64 0, .int .i64 0, .bool false, .bool false, .slice none 0 0] 40)
  rw [World.size_alloc] at hb4
  have HB4 := Lib.hid hb4
  have HB3 := Lib.hid (alloc_old (.cells #[.int .i64 0, .int .i64 0, .string ⟨#[]⟩, .string ⟨#[]⟩, .slice none 0 0, .slice none 0 0, .int .i64 0, .int .i64 0, .int .i64 0, .bool false, .bool false, .slice none 0 0] 40) (alloc_block w (.cells #[.int .u8 (o.kind : Int), .string o.url, .bool o.keep, .int .i8 o.delta, .slice sn nn cn, .slice sp np cp] 38)))
  have hC1 := (Chg.alloc (fun _ => False) w (.cells #[.int .u8 (o.kind : Int), .string o.url, .bool o.keep, .int .i8 o.delta, .slice sn nn cn, .slice sp np cp] 38)).allocR (.cells #[.int .i64 0, .int .i64 0, .string ⟨#[]⟩, .string ⟨#[]⟩, .slice none 0 0, .slice none 0 0, .int .i64 0, .int .i64 0, .int .i64 0, .bool false, .bool false, .slice none 0 0] 40)
  have HB0 : Hid (w0.heap.size ≤ w.heap.size ∧ w.heap.size + 1 < ((w.alloc (.cells #[.int .u8 (o.kind : Int), .string o.url, .bool o.keep, .int .i8 o.delta, .slice sn nn cn, .slice sp np cp] 38)).alloc (.cells #[.int .i64 0, .int .i64 0, .string ⟨#[]⟩, .string ⟨#[]⟩, .slice none 0 0, .slice none 0 0, .int .i64 0, .int .i64 0, .int .i64 0, .bool false, .bool false, .slice none 0 0] 40)).heap.size) := Lib.hid ⟨H.chg.size, by rw [World.size_alloc, World.size_alloc]; omega⟩
  have HMLT := Lib.hid H.mutLt
  have hU6 : Lib.Utf8Tabs 0 1 w06.toWorld := by rw [hw6e]; exact B.tabs
  have hm6 : MsgAt (fun k => w06.heap.size ≤ k) ((w.alloc (.cells #[.int .u8 (o.kind : Int), .string o.url, .bool o.keep, .int .i8 o.delta, .slice sn nn cn, .slice sp np cp] 38)).alloc (.cells #[.int .i64 0, .int .i64 0, .string ⟨#[]⟩, .string ⟨#[]⟩, .slice none 0 0, .slice none 0 0, .int .i64 0, .int .i64 0, .int .i64 0, .bool false, .bool false, .slice none 0 0] 40)) (.slice sn nn cn) (.slice sp np cp) o.msg := by
    rw [hw6e]; exact B.msg.chg hC1 (fun _ _ x => x.elim) (fun _ _ x => x)
  have HC := Lib.hid (evict_any w06 _ b h vl vs rs H1 o.delta)
  have HW6E := Lib.hid hw6e
  have HX6 := Lib.hid hx6
  have HC1 := Lib.hid hC1
  have wk : IntKind.i64.wrap (o.kind : Int) = (o.kind : Int) := IntWalk.i64_in _ (by have := B.kind; omega)
  have wd : IntKind.i64.wrap o.delta = o.delta := IntWalk.i64_in _ (by have := B.delta; omega)
  have l0 := cell_of_block (i := 0) HB3.out rfl
  have l1 := cell_of_block (i := 1) HB3.out rfl
  have l2 := cell_of_block (i := 2) HB3.out rfl
  have l3 := cell_of_block (i := 3) HB3.out rfl
  have l4 := cell_of_block (i := 4) HB3.out rfl
  have l5 := cell_of_block (i := 5) HB3.out rfl
  simp only [List.getElem_toArray, List.getElem_cons_zero, List.getElem_cons_succ] at l0 l1 l2 l3 l4 l5
  clear H H1 B hb4 hC1 hU6 hm6 hw6e hx6
  go_enter Tryd.func15, Tryd.ntmps15
  go_upto_region 1 with fail
  generalize (w.alloc (.cells #[.int .u8 (o.kind : Int), .string o.url, .bool o.keep, .int .i8 o.delta, .slice sn nn cn, .slice sp np cp] 38)).alloc (.cells #[.int .i64 0, .int .i64 0, .string ⟨#[]⟩, .string ⟨#[]⟩, .slice none 0 0, .slice none 0 0, .int .i64 0, .int .i64 0, .int .i64 0, .bool false, .bool false, .slice none 0 0] 40) = w1 at *
  generalize hb4e : w.heap.size + 1 = b4 at HB4 HB0 HX6 ⊢
  generalize hb3e : w.heap.size = b3 at HB3 l0 l1 l2 l3 l4 l5 HX6 ⊢
  have HB4E := Lib.hid hb4e
  clear hb4e hb3e
  have HZ : Hid (∀ w2, Chg (Mut b vl vs) w1 w2 → w2.heap[b4]? = some (.cells #[.int .i64 0, .int .i64 0, .string ⟨#[]⟩, .string ⟨#[]⟩, .slice none 0 0, .slice none 0 0, .int .i64 0, .int .i64 0, .int .i64 0, .bool false, .bool false, .slice none 0 0] 40 (0, 0))) := Lib.hid (fun w2 hc => hc.keep HB4.out (fun x => by have := HMLT.out b4 x; have := HB4E.out; omega))
  go_wp2_with (go_at_call 29; refine HC.out.mono ?_; rintro _ w2 ⟨rfl, hX⟩; have HXX := Lib.hid hX; have hb6e := HZ.out w2 hX.chg; obtain ⟨z0, q0, z1, q1, z2, q2, z3, q3, z4, q4, z5, q5, z6, q6, z7, q7, z8, q8, z9, q9, z10, q10, z11, q11, hbf, hcs⟩ := store12 hb6e (.int .i64 0) (.int .i64 0) (.string ⟨#[]⟩) (.string ⟨#[]⟩) (.slice none 0 0) (.slice none 0 0) (.int .i64 0) (.int .i64 0) (.int .i64 0) (.bool false) (.bool false) (.slice none 0 0); have HCS := Lib.hid hcs; clear hcs hb6e hX)
  generalize ((((((((((((w2.setCell ⟨b4, 0, none⟩ (.int .i64 0)).setCell ⟨b4, 1, none⟩ (.int .i64 0)).setCell ⟨b4, 2, none⟩ (.string ⟨#[]⟩)).setCell ⟨b4, 3, none⟩ (.string ⟨#[]⟩)).setCell ⟨b4, 4, none⟩ (.slice none 0 0)).setCell ⟨b4, 5, none⟩ (.slice none 0 0)).setCell ⟨b4, 6, none⟩ (.int .i64 0)).setCell ⟨b4, 7, none⟩ (.int .i64 0)).setCell ⟨b4, 8, none⟩ (.int .i64 0)).setCell ⟨b4, 9, none⟩ (.bool false)).setCell ⟨b4, 10, none⟩ (.bool false)).setCell ⟨b4, 11, none⟩ (.slice none 0 0)) = wz at *
  refine bodyPost_ret (results_cell_row_tmp48 rfl _ _ b4 #[.int .i64 0, .int .i64 0, .string ⟨#[]⟩, .string ⟨#[]⟩, .slice none 0 0, .slice none 0 0, .int .i64 0, .int .i64 0, .int .i64 0, .bool false, .bool false, .slice none 0 0] (by rfl) (run_loadVar_row _ b4 40 40 _ _ _ hbf Tryd.underlying40 rfl (by kernel_rfl))) rfl ?_
  exact ⟨_, rfl, do_fin0 HXX.out HCS.out HC1.out HW6E.out (fun k => ⟨fun x => (HX6.out k).2 (.inl x), fun e => (HX6.out k).2 (.inr (.inr e))⟩) (by have := HB0.out; have := HB4E.out; omega) (by have := HB4E.out; omega) HB0.out.2⟩
/-- One operation. -/
theorem do_any (w0 : Past) (w : World) (b : Nat) (h : Hist) (vl vs : Value) (rs : List EntR) (o : COp) (sn sp : Option Addr) (nn cn np cp : Nat) (H : HiAt w0 w b h vl vs rs) (B : DoB w0 h o w sn sp nn cn np cp) :
    Calls Tryd.prog 15 #[.pointer (some ⟨b, 0, none⟩), .agg #[.int .u8 (o.kind : Int), .string o.url, .bool o.keep, .int .i8 o.delta, .slice sn nn cn, .slice sp np cp]] w fun z w' => ∃ zv, z = .returned (.tuple #[zv, .int .i64 (doE allowedB h o)]) ∧ OpV w0 w b (Mut b vl vs) (doH allowedB h o) (doV allowedB h o) zv w' := by
  rcases (show o.kind % 7 = 0 ∨ o.kind % 7 = 1 ∨ o.kind % 7 = 2 ∨ o.kind % 7 = 3 ∨ o.kind % 7 = 4 ∨ o.kind % 7 = 5 ∨ o.kind % 7 = 6 by omega) with k | k | k | k | k | k | k
  · rw [show doE allowedB h o = 0 by simp [doE, k], show doH allowedB h o = navM h o.url o.keep by simp [doH, k], show doV allowedB h o = navV h o.url o.keep by simp [doV, k]]
    exact do_nav w0 w b h vl vs rs o sn sp nn cn np cp H B (by omega)
  · by_cases ha : allowedB o.msg = true
    · rw [show doE allowedB h o = 0 by simp [doE, k, ha], show doH allowedB h o = pushM h o.url o.msg by simp [doH, k, ha], show doV allowedB h o = pushV h o.url o.msg by simp [doV, k, ha]]
      exact do_push w0 w b h vl vs rs o sn sp nn cn np cp H B (by omega) ha
    · rw [show doE allowedB h o = 1 by simp [doE, k, ha], show doH allowedB h o = h by simp [doH, k, ha], show doV allowedB h o = Mv0 by simp [doV, k, ha]]
      exact do_push_no w0 w b h vl vs rs o sn sp nn cn np cp H B (by omega) (by simpa using ha)
  · by_cases ha : allowedB o.msg = true
    · rw [show doE allowedB h o = 0 by simp [doE, k, ha], show doH allowedB h o = replM h o.url o.msg by simp [doH, k, ha], show doV allowedB h o = Mv0 by simp [doV, k]]
      exact do_repl w0 w b h vl vs rs o sn sp nn cn np cp H B (by omega) ha
    · rw [show doE allowedB h o = 1 by simp [doE, k, ha], show doH allowedB h o = h by simp [doH, k, ha], show doV allowedB h o = Mv0 by simp [doV, k]]
      exact do_repl_no w0 w b h vl vs rs o sn sp nn cn np cp H B (by omega) (by simpa using ha)
  · by_cases hd : GoOk h o.delta
    · rw [show doE allowedB h o = 0 by simp [doE, k, hd], show doH allowedB h o = goM h o.delta by simp [doH, k, hd], show doV allowedB h o = goV h o.delta by simp [doV, k, hd]]
      exact do_go w0 w b h vl vs rs o sn sp nn cn np cp H B (by omega) hd
    · rw [show doE allowedB h o = 2 by simp [doE, k, hd], show doH allowedB h o = h by simp [doH, k, hd], show doV allowedB h o = Mv0 by simp [doV, k, hd]]
      exact do_go_no w0 w b h vl vs rs o sn sp nn cn np cp H B (by omega) hd
  · rw [show doE allowedB h o = 0 by simp [doE, k], show doH allowedB h o = scrollM h o.delta o.url.size by simp [doH, k], show doV allowedB h o = Mv0 by simp [doV, k]]
    exact do_scroll w0 w b h vl vs rs o sn sp nn cn np cp H B (by omega)
  · rw [show doE allowedB h o = 0 by simp [doE, k], show doH allowedB h o = nameM h o.url by simp [doH, k], show doV allowedB h o = Mv0 by simp [doV, k]]
    exact do_name w0 w b h vl vs rs o sn sp nn cn np cp H B (by omega)
  · rw [show doE allowedB h o = evictE h o.delta by simp [doE, k, evictE], show doH allowedB h o = evictX h o.delta by simp [doH, k, evictX], show doV allowedB h o = Mv0 by simp [doV, k]]
    exact do_evict w0 w b h vl vs rs o sn sp nn cn np cp H B (by omega)
end Go.Proofs.YtiecgbmeobpomaaDoor
