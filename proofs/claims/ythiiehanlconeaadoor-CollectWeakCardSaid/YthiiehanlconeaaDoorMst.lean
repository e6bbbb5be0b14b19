/-
  heap.MapSet of references.
-/
import Derived.Test.YthiiehanlconeaaDoorEnt
import Derived.Sort.Row
namespace Go.Proofs.YthiiehanlconeaaDoor
open Go.RowKit
set_option linter.unusedVariables false
set_option linter.unusedSimpArgs false

/-- What lay there is stored again: nothing has changed. -/
theorem setCell_id {w : World} {g i : Nat} {c : Array Value} {T : TypeId} {f : Nat × Nat} {v : Value} (hb : w.heap[g]? = some (.cells c T f)) (hv : c[i]? = some v) : w.setCell ⟨g, i, none⟩ v = w := by
  have hc : c.setIfInBounds i v = c := by
    apply Array.ext_getElem?
    intro j
    rw [Array.getElem?_setIfInBounds]
    split
    · rename_i e
      subst e
      split
      · exact hv.symm
      · rename_i hn
        rw [Array.getElem?_eq_none (by omega)]
    · rfl
  have hh : ∀ j : Nat, (w.setCell ⟨g, i, none⟩ v).heap[j]? = w.heap[j]? := by
    intro j
    by_cases e : j = g
    · subst e
      rw [setCell_block v hb, hb, hc]
    · rw [Below.heap_setCell _ _ _ _ e]
  have h2 : (w.setCell ⟨g, i, none⟩ v).heap = w.heap := Array.ext_getElem? hh
  have h3 : w.setCell ⟨g, i, none⟩ v = { w with heap := (w.setCell ⟨g, i, none⟩ v).heap } := rfl
  rw [h3, h2]
theorem setCell_same2 {w : World} {g i : Nat} {v : Value} (h : w.cell? ⟨g, i, none⟩ = some v) : w.setCell ⟨g, i, none⟩ v = w := by
  have hl := World.block_lt_of_cell? w _ h
  obtain ⟨o, ho⟩ : ∃ o, w.heap[g]? = some o := ⟨_, Array.getElem?_eq_getElem hl⟩
  cases o with
  | cells c T f => exact setCell_id ho (by simpa [World.cell?, ho] using h)
  | _ => simp [World.cell?, ho] at h
set_option maxHeartbeats 6400000 in
set_option maxRecDepth 100000 in
theorem mset_old (w : World) (b : Nat) (hp : Hp) (F : List Nat) (h : Int) (i : Nat) (P : List (Int × Int)) (a v : Int) (H : Here hpR w b 0 hp F) (hi : -9223372036854775808 ≤ h ∧ h ≤ 9223372036854775807) (hs : slotOf hp h = some i) (hl : i < hp.slots.length) (hk : hp.slots[i].obj.kind = 5)
    (hd : hp.slots[i].obj.data = P.flatMap fun q => [refV q.1, refV q.2]) (hP : P.length ≤ 400) (ha : ∃ q ∈ P, q.1 = a) (hu : ∀ q ∈ P, q.1 = a → q.2 = v) :
    Calls Tryd.prog 8 #[.pointer (some ⟨b, 0, none⟩), .int .i64 h, .agg #[.int .i64 5, .int .i64 0, .string ⟨#[]⟩, .int .i64 a], .agg #[.int .i64 5, .int .i64 0, .string ⟨#[]⟩, .int .i64 v]] w fun e w' => e = .returned (.int .i64 0) ∧ Chg (fun _ => False) w w' := by
  have HAX := Lib.hid ha
  have HU := Lib.hid hu
  clear ha hu
  have hca := (Chg.alloc (fun _ => False) w (.cells #[.int .i64 5, .int .i64 0, .string ⟨#[]⟩, .int .i64 a] 38)).allocR (.cells #[.int .i64 5, .int .i64 0, .string ⟨#[]⟩, .int .i64 v] 38)
  have kb := alloc_block w (.cells #[.int .i64 5, .int .i64 0, .string ⟨#[]⟩, .int .i64 a] 38)
  have kb2 := alloc_block (w.alloc (.cells #[.int .i64 5, .int .i64 0, .string ⟨#[]⟩, .int .i64 a] 38)) (.cells #[.int .i64 5, .int .i64 0, .string ⟨#[]⟩, .int .i64 v] 38)
  have hs1 : (w.alloc (.cells #[.int .i64 5, .int .i64 0, .string ⟨#[]⟩, .int .i64 a] 38)).heap.size = w.heap.size + 1 := Array.size_push ..
  rw [hs1] at kb2
  have kb1 := (Chg.alloc (fun _ => False) (w.alloc (.cells #[.int .i64 5, .int .i64 0, .string ⟨#[]⟩, .int .i64 a] 38)) (.cells #[.int .i64 5, .int .i64 0, .string ⟨#[]⟩, .int .i64 v] 38)).keep kb (fun x => x)
  have HKA := Lib.hid kb1
  have HKV := Lib.hid kb2
  have H2 := H.still hca
  obtain ⟨gh, oh, kh, c2, G, HOBJ0, hGF, hput⟩ := hpPut H hl
  obtain ⟨vp, ve, vd, vs, HOC⟩ := objOpen HOBJ0
  obtain ⟨ad, cd, rfl, -⟩ := HOC.rd.slice
  have HOBJ := HOBJ0.still hca
  have hrlt := HOC.rd.lt
  have hdl : hp.slots[i].obj.data.length = 2 * P.length := by rw [hd]; exact pair_lenE _ _ P
  have c0 := hca.cell HOC.c0
  rw [hk] at c0
  have HTB := Lib.hid (table_any _ b hp F h i gh oh kh H2 (hca.cell c2) hi hs c0)
  have hrd := HOC.rd.chg hca (fun _ _ x => x)
  have c4 := hca.cell HOC.c4
  have hbF : b < ((w.alloc (.cells #[.int .i64 5, .int .i64 0, .string ⟨#[]⟩, .int .i64 a] 38)).alloc (.cells #[.int .i64 5, .int .i64 0, .string ⟨#[]⟩, .int .i64 v] 38)).heap.size ∧ ∀ k ∈ F, k < w.heap.size := ⟨H2.lt.1, H.lt.2⟩
  generalize hx : hp.slots[i].obj = x at *
  have HX := Lib.hid hx
  have HC4 := Lib.hid c4
  have HC0 := Lib.hid c0
  have HRD := Lib.hid hrd
  have HD := Lib.hid hd
  have HDL := Lib.hid hdl
  have HP := Lib.hid hP
  have HCA := Lib.hid hca
  have HOB := Lib.hid HOBJ
  have HPT := Lib.hid hput
  have HH2 := Lib.hid H2
  have HBF := Lib.hid hbF
  have HGF := Lib.hid hGF
  have HRLT := Lib.hid hrlt
  clear kb kb1 kb2 hs1 hca H2 c2 HOBJ HOBJ0 hrlt hGF hput HOC c4 c0 hrd hd hdl hP hi hs H hbF hx hk
  go_enter Tryd.func8, Tryd.ntmps8
  go_upto_region 1 with fail
  generalize hw2 : ((w.alloc (.cells #[.int .i64 5, .int .i64 0, .string ⟨#[]⟩, .int .i64 a] 38)).alloc (.cells #[.int .i64 5, .int .i64 0, .string ⟨#[]⟩, .int .i64 v] 38)) = w2 at *
  generalize hb7 : w.heap.size + 1 = b7 at *
  generalize hb6 : w.heap.size = b6 at *
  have HB76 := Lib.hid (And.intro hb6 hb7)
  clear hw2 hb7 hb6
  go_upto_region 2 with (go_at_call 18; refine HTB.out.mono ?_; rintro e w3 ⟨rfl, hc3⟩)
  have HC3 := Lib.hid hc3
  have k00 := cell_of_block (i := 0) (hc3.keep HKA.out (fun x => x)) rfl
  have k01 := cell_of_block (i := 1) (hc3.keep HKA.out (fun x => x)) rfl
  have k02 := cell_of_block (i := 2) (hc3.keep HKA.out (fun x => x)) rfl
  have k03 := cell_of_block (i := 3) (hc3.keep HKA.out (fun x => x)) rfl
  simp only [List.getElem_toArray, List.getElem_cons_zero, List.getElem_cons_succ] at k00 k01 k02 k03
  have c0 := hc3.cell HC0.out
  have zz : ((5 : Int) != 5) = false := rfl
  have zz2 : ((5 : Int) == 5) = true := rfl
  have HEN := Lib.hid (entry_any w3 gh (oh + i * 11 + 1) x.data.length cd ad P a (hc3.cell HC4.out) HDL.out (by have := HP.out; omega) (by have h := HRD.out.chg hc3 (fun _ _ x => x); rw [HD.out] at h ⊢; exact h))
  clear hc3 HTB
  go_upto_region 5 with (go_at_call 19; refine HEN.out.mono ?_; rintro e w4 ⟨r, rfl, hc4, hr⟩)
  have HC24 := Lib.hid (HC3.out.trans' hc4)
  have HR := Lib.hid hr
  clear hc4 hr HEN k00 k01 k02 k03 c0 HC3 zz zz2
  obtain ⟨q, hq, rfl, hqa⟩ : ∃ q, ∃ h : q < P.length, r = ((2 * q : Nat) : Int) ∧ P[q].1 = a := by
    rcases HR.out with ⟨-, hn⟩ | h
    · obtain ⟨y, hy, e⟩ := HAX.out
      exact absurd e (hn y hy)
    · exact h
  have hqv := HU.out P[q] (List.getElem_mem hq) hqa
  have hpg := (pair_getE (fun q : Int × Int => refV q.1) (fun q => refV q.2) P q P[q] (List.getElem?_eq_getElem hq)).2
  obtain ⟨j, hj⟩ : ∃ j, j = 2 * q := ⟨_, rfl⟩
  obtain ⟨j1, hj1⟩ : ∃ j1, j1 = j + 1 := ⟨_, rfl⟩
  rw [← hj] at hpg ⊢
  rw [← hj1, ← HD.out] at hpg
  have hjl : j1 < x.data.length := by have := HDL.out; omega
  rw [List.getElem?_eq_getElem hjl] at hpg
  have hg0 : x.data[j1] = refV v := by rw [Option.some.inj hpg, hqv]
  have hrw4 := HRD.out.chg HC24.out (fun _ _ x => x)
  obtain ⟨gd, od, cd', hv, hblk⟩ := hrw4.addr (by omega)
  cases hv
  have hcell : ∀ t u, x.data[j1].cells[t]? = some u → t < 4 → w4.cell? ⟨gd, od + j1 * 4 + t, none⟩ = some u := fun t u hu ht => by
    rw [Nat.add_assoc]
    exact hrw4.cellAt (j1 * 4 + t) u (by rw [flat_get _ 4 Val.len x.data j1 t hjl ht]; exact hu)
  rw [hg0] at hcell
  have a0 := hcell 0 _ rfl (by omega)
  have a1 := hcell 1 _ rfl (by omega)
  have a2 := hcell 2 _ rfl (by omega)
  have a3 := hcell 3 _ rfl (by omega)
  rw [Nat.add_zero] at a0
  have m0 := cell_of_block (i := 0) (HC24.out.keep HKV.out (fun x => x)) rfl
  have m1 := cell_of_block (i := 1) (HC24.out.keep HKV.out (fun x => x)) rfl
  have m2 := cell_of_block (i := 2) (HC24.out.keep HKV.out (fun x => x)) rfl
  have m3 := cell_of_block (i := 3) (HC24.out.keep HKV.out (fun x => x)) rfl
  simp only [List.getElem_toArray, List.getElem_cons_zero, List.getElem_cons_succ] at m0 m1 m2 m3
  have HS0 : Hid (w4.cell? ⟨gh, oh + i * 11 + 1 + 4, none⟩ = some (.slice (some ⟨gd, od, none⟩) x.data.length cd) ∧ w4.cell? ⟨gd, od + j1 * 4, none⟩ = some (.int .i64 5) ∧ w4.cell? ⟨gd, od + j1 * 4 + 1, none⟩ = some (.int .i64 0) ∧ w4.cell? ⟨gd, od + j1 * 4 + 2, none⟩ = some (.string ⟨#[]⟩) ∧ w4.cell? ⟨gd, od + j1 * 4 + 3, none⟩ = some (.int .i64 v) ∧ w4.cell? ⟨b7, 0, none⟩ = some (.int .i64 5) ∧ w4.cell? ⟨b7, 1, none⟩ = some (.int .i64 0) ∧ w4.cell? ⟨b7, 2, none⟩ = some (.string ⟨#[]⟩) ∧ w4.cell? ⟨b7, 3, none⟩ = some (.int .i64 v)) := Lib.hid ⟨HC24.out.cell HC4.out, a0, a1, a2, a3, m0, m1, m2, m3⟩
  have f0 : (0 : Int) ≤ (j : Int) := by omega
  have f1 : (0 : Int) ≤ (j1 : Int) := by omega
  have f2 : (j1 : Int) < (x.data.length : Int) := by omega
  have w64 : IntKind.i64.wrap ((j : Int) + 1) = (j1 : Int) := by rw [show (j : Int) + 1 = (j1 : Int) by omega]; exact IntWalk.i64_in _ (by have := HDL.out; have := HP.out; omega)
  have HNM := Lib.hid (fun (h : Int) (W : World) => normal_ref h W)
  clear hcell hg0 hpg hqv hqa a0 a1 a2 a3 m0 m1 m2 m3 hq hjl hj hj1
  go_upto_region 6 with fail
  refine wp_region_held_split 9 (fun w' => w'.cell? ⟨gh, oh + i * 11 + 1 + 4, none⟩ = some (.slice (some ⟨gd, od, none⟩) x.data.length cd) ∧ w'.cell? ⟨gd, od + j1 * 4, none⟩ = some (.int .i64 5) ∧ w'.cell? ⟨gd, od + j1 * 4 + 1, none⟩ = some (.int .i64 0) ∧ w'.cell? ⟨gd, od + j1 * 4 + 2, none⟩ = some (.string ⟨#[]⟩) ∧ w'.cell? ⟨gd, od + j1 * 4 + 3, none⟩ = some (.int .i64 v) ∧ w'.cell? ⟨b7, 0, none⟩ = some (.int .i64 5) ∧ w'.cell? ⟨b7, 1, none⟩ = some (.int .i64 0) ∧ w'.cell? ⟨b7, 2, none⟩ = some (.string ⟨#[]⟩) ∧ w'.cell? ⟨b7, 3, none⟩ = some (.int .i64 v)) (by kernel_rfl) (by kernel_rfl) ?_ (fun hHeld => ?_)
  · (first | exact HS0.out | exact HKS.out _ HCD.out)
  simp only [List.take_succ_cons, List.take_zero]
  have HKS : Hid (∀ W, Chg (fun _ => False) w4.drew W → W.cell? ⟨gh, oh + i * 11 + 1 + 4, none⟩ = some (.slice (some ⟨gd, od, none⟩) x.data.length cd) ∧ W.cell? ⟨gd, od + j1 * 4, none⟩ = some (.int .i64 5) ∧ W.cell? ⟨gd, od + j1 * 4 + 1, none⟩ = some (.int .i64 0) ∧ W.cell? ⟨gd, od + j1 * 4 + 2, none⟩ = some (.string ⟨#[]⟩) ∧ W.cell? ⟨gd, od + j1 * 4 + 3, none⟩ = some (.int .i64 v) ∧ W.cell? ⟨b7, 0, none⟩ = some (.int .i64 5) ∧ W.cell? ⟨b7, 1, none⟩ = some (.int .i64 0) ∧ W.cell? ⟨b7, 2, none⟩ = some (.string ⟨#[]⟩) ∧ W.cell? ⟨b7, 3, none⟩ = some (.int .i64 v)) := Lib.hid (fun W hc => ⟨hc.cell HS0.out.1, hc.cell HS0.out.2.1, hc.cell HS0.out.2.2.1, hc.cell HS0.out.2.2.2.1, hc.cell HS0.out.2.2.2.2.1, hc.cell HS0.out.2.2.2.2.2.1, hc.cell HS0.out.2.2.2.2.2.2.1, hc.cell HS0.out.2.2.2.2.2.2.2.1, hc.cell HS0.out.2.2.2.2.2.2.2.2⟩)
  have HWD : Hid (Chg (fun _ => False) w4 w4.drew) := Lib.hid (Chg.refl _ w4).drewR
  have HRW := Lib.hid (hrw4.chg HWD.out (fun _ _ x => x))
  generalize w4.drew = wD at *
  have HCD := Lib.hid (Chg.refl (fun _ => False) wD)
  refine wpAnyH_take (i := 0) (v := ?_) rfl (by kernel_rfl) (by kernel_rfl) (by kernel_rfl) (fun _ _ _ h => h) (Or.inl ⟨by rfl, ?_⟩) (by assumption) ?_
  rotate_left
  · (intro wq hSw; (try dsimp only at hSw); go_simp; (try with_reducible rfl))
  simp only [Act.put, List.getElem_toArray, List.getElem_cons_zero, List.getElem_cons_succ, List.setIfInBounds_toArray, List.set_cons_zero, List.set_cons_succ]
  refine wpAnyH_take (i := 1) (v := ?_) rfl (by kernel_rfl) (by kernel_rfl) (by kernel_rfl) (fun _ _ _ h => h) (Or.inl ⟨by rfl, ?_⟩) (by assumption) ?_
  rotate_left
  · (intro wq hSw; (try dsimp only at hSw); go_simp; (try with_reducible rfl))
  simp only [Act.put, List.getElem_toArray, List.getElem_cons_zero, List.getElem_cons_succ, List.setIfInBounds_toArray, List.set_cons_zero, List.set_cons_succ]
  refine wpAnyH_take (i := 2) (v := ?_) rfl (by kernel_rfl) (by kernel_rfl) (by kernel_rfl) (fun _ _ _ h => h) (Or.inl ⟨by rfl, ?_⟩) (by assumption) ?_
  rotate_left
  · (intro wq hSw; (try dsimp only at hSw); go_simp; (try with_reducible rfl))
  simp only [Act.put, List.getElem_toArray, List.getElem_cons_zero, List.getElem_cons_succ, List.setIfInBounds_toArray, List.set_cons_zero, List.set_cons_succ]
  refine wpAnyH_take (i := 3) (v := ?_) rfl (by kernel_rfl) (by kernel_rfl) (by kernel_rfl) (fun _ _ _ h => h) (Or.inl ⟨by rfl, ?_⟩) (by assumption) ?_
  rotate_left
  · (intro wq hSw; (try dsimp only at hSw); go_simp; (try with_reducible rfl))
  simp only [Act.put, List.getElem_toArray, List.getElem_cons_zero, List.getElem_cons_succ, List.setIfInBounds_toArray, List.set_cons_zero, List.set_cons_succ]
  refine wpAnyH_take (i := 4) (v := ?_) rfl (by kernel_rfl) (by kernel_rfl) (by kernel_rfl) (fun _ _ _ h => h) (Or.inl ⟨by rfl, ?_⟩) (by assumption) ?_
  rotate_left
  · (intro wq hSw; (try dsimp only at hSw); go_simp; (try with_reducible rfl))
  simp only [Act.put, List.getElem_toArray, List.getElem_cons_zero, List.getElem_cons_succ, List.setIfInBounds_toArray, List.set_cons_zero, List.set_cons_succ]
  refine wpAnyH_take (i := 5) (v := ?_) rfl (by kernel_rfl) (by kernel_rfl) (by kernel_rfl) (fun _ _ _ h => h) (Or.inl ⟨by rfl, ?_⟩) (by assumption) ?_
  rotate_left
  · (intro wq hSw; (try dsimp only at hSw); go_simp; (try with_reducible rfl))
  simp only [Act.put, List.getElem_toArray, List.getElem_cons_zero, List.getElem_cons_succ, List.setIfInBounds_toArray, List.set_cons_zero, List.set_cons_succ]
  refine wpAnyH_take (i := 6) (v := ?_) rfl (by kernel_rfl) (by kernel_rfl) (by kernel_rfl) (fun _ _ _ h => h) (Or.inl ⟨by rfl, ?_⟩) (by assumption) ?_
  rotate_left
  · (intro wq hSw; (try dsimp only at hSw); go_simp; (try with_reducible rfl))
  simp only [Act.put, List.getElem_toArray, List.getElem_cons_zero, List.getElem_cons_succ, List.setIfInBounds_toArray, List.set_cons_zero, List.set_cons_succ]
  refine wpAnyH_ready (rs := [7]) (by kernel_rfl) (by simp) ?_
  refine AllReadyH.cons (by simp only [List.getElem?_toArray, List.getElem?_cons_succ, List.getElem?_cons_zero]; rfl) (fun K hK => ?_) AllReadyH.nil
  (go_simp; go_at_call 20; refine (HNM.out _ _).mono ?_; rintro _ wd ⟨rfl, hcd⟩; have HCD := Lib.hid (HCD.out.trans' hcd); clear hcd; go_simp)
  refine hK.out _ _ ?_ (fun hHeld => ?_)
  · (first | exact HS0.out | exact HKS.out _ HCD.out)
  clear hK K
  (try simp only [Act.put, List.getElem_toArray, List.getElem_cons_zero, List.getElem_cons_succ, List.setIfInBounds_toArray, List.set_cons_zero, List.set_cons_succ])
  refine wpAnyH_take (i := 8) (v := ?_) rfl (by kernel_rfl) (by kernel_rfl) (by kernel_rfl) (fun _ _ _ h => h) (Or.inl ⟨by rfl, ?_⟩) (by assumption) ?_
  rotate_left
  · (intro wq hSw; (try dsimp only at hSw); go_simp; (try with_reducible rfl))
  simp only [Act.put, List.getElem_toArray, List.getElem_cons_zero, List.getElem_cons_succ, List.setIfInBounds_toArray, List.set_cons_zero, List.set_cons_succ]
  refine wpAnyH_done (by kernel_rfl) ?_ _
  change wpList _ _ _ _ _ _
  simp only [List.drop_succ_cons, List.drop_zero]
  have HK9 := HKS.out _ HCD.out
  have hrd := HRW.out.chg HCD.out (fun _ _ x => x)
  have e0 : wd.setCell ⟨gd, od + j1 * 4, none⟩ (.int .i64 5) = wd := setCell_same2 HK9.2.1
  have e1 : wd.setCell ⟨gd, od + j1 * 4 + 1, none⟩ (.int .i64 0) = wd := setCell_same2 HK9.2.2.1
  have e2 : wd.setCell ⟨gd, od + j1 * 4 + 2, none⟩ (.string ⟨#[]⟩) = wd := setCell_same2 HK9.2.2.2.1
  have e3 : wd.setCell ⟨gd, od + j1 * 4 + 3, none⟩ (.int .i64 v) = wd := setCell_same2 HK9.2.2.2.2.1
  have f0 := hrd.frozenAt (j1 * 4)
  have f1 := hrd.frozenAt (j1 * 4 + 1)
  have f2 := hrd.frozenAt (j1 * 4 + 2)
  have f3 := hrd.frozenAt (j1 * 4 + 3)
  rw [← Nat.add_assoc] at f1 f2 f3
  obtain ⟨-, q0, q1, q2, q3, -⟩ := HK9
  have HFIN := Lib.hid (((HCA.out.trans' HC24.out).trans' HWD.out).trans' HCD.out)
  go_wp2_with fail
  go_ret
  exact ⟨rfl, HFIN.out⟩
set_option maxHeartbeats 6400000 in
set_option maxRecDepth 100000 in
theorem mset_new (w : World) (b : Nat) (hp : Hp) (F : List Nat) (h : Int) (i : Nat) (P : List (Int × Int)) (a v : Int) (H : Here hpR w b 0 hp F) (hi : -9223372036854775808 ≤ h ∧ h ≤ 9223372036854775807) (hs : slotOf hp h = some i) (hl : i < hp.slots.length) (hk : hp.slots[i].obj.kind = 5)
    (hd : hp.slots[i].obj.data = P.flatMap fun q => [refV q.1, refV q.2]) (hP : P.length ≤ 400) (hn : ∀ q ∈ P, q.1 ≠ a) :
    Calls Tryd.prog 8 #[.pointer (some ⟨b, 0, none⟩), .int .i64 h, .agg #[.int .i64 5, .int .i64 0, .string ⟨#[]⟩, .int .i64 a], .agg #[.int .i64 5, .int .i64 0, .string ⟨#[]⟩, .int .i64 v]] w fun e w' => e = .returned (.int .i64 0) ∧ Post hpR w b 0 (putO hp i { hp.slots[i].obj with data := hp.slots[i].obj.data ++ [refV a, refV v] }) F w' := by
  have HAX := Lib.hid hn
  clear hn
  have hca := (Chg.alloc (fun _ => False) w (.cells #[.int .i64 5, .int .i64 0, .string ⟨#[]⟩, .int .i64 a] 38)).allocR (.cells #[.int .i64 5, .int .i64 0, .string ⟨#[]⟩, .int .i64 v] 38)
  have kb := alloc_block w (.cells #[.int .i64 5, .int .i64 0, .string ⟨#[]⟩, .int .i64 a] 38)
  have kb2 := alloc_block (w.alloc (.cells #[.int .i64 5, .int .i64 0, .string ⟨#[]⟩, .int .i64 a] 38)) (.cells #[.int .i64 5, .int .i64 0, .string ⟨#[]⟩, .int .i64 v] 38)
  have hs1 : (w.alloc (.cells #[.int .i64 5, .int .i64 0, .string ⟨#[]⟩, .int .i64 a] 38)).heap.size = w.heap.size + 1 := Array.size_push ..
  rw [hs1] at kb2
  have kb1 := (Chg.alloc (fun _ => False) (w.alloc (.cells #[.int .i64 5, .int .i64 0, .string ⟨#[]⟩, .int .i64 a] 38)) (.cells #[.int .i64 5, .int .i64 0, .string ⟨#[]⟩, .int .i64 v] 38)).keep kb (fun x => x)
  have HKA := Lib.hid kb1
  have HKV := Lib.hid kb2
  have H2 := H.still hca
  obtain ⟨gh, oh, kh, c2, G, HOBJ0, hGF, hput⟩ := hpPut H hl
  obtain ⟨vp, ve, vd, vs, HOC⟩ := objOpen HOBJ0
  obtain ⟨ad, cd, rfl, -⟩ := HOC.rd.slice
  have HOBJ := HOBJ0.still hca
  have hrlt := HOC.rd.lt
  have hdl : hp.slots[i].obj.data.length = 2 * P.length := by rw [hd]; exact pair_lenE _ _ P
  have c0 := hca.cell HOC.c0
  rw [hk] at c0
  have HTB := Lib.hid (table_any _ b hp F h i gh oh kh H2 (hca.cell c2) hi hs c0)
  have hrd := HOC.rd.chg hca (fun _ _ x => x)
  have c4 := hca.cell HOC.c4
  have hbF : b < ((w.alloc (.cells #[.int .i64 5, .int .i64 0, .string ⟨#[]⟩, .int .i64 a] 38)).alloc (.cells #[.int .i64 5, .int .i64 0, .string ⟨#[]⟩, .int .i64 v] 38)).heap.size ∧ ∀ k ∈ F, k < w.heap.size := ⟨H2.lt.1, H.lt.2⟩
  generalize hx : hp.slots[i].obj = x at *
  have HX := Lib.hid hx
  have HC4 := Lib.hid c4
  have HC0 := Lib.hid c0
  have HRD := Lib.hid hrd
  have HD := Lib.hid hd
  have HDL := Lib.hid hdl
  have HP := Lib.hid hP
  have HCA := Lib.hid hca
  have HOB := Lib.hid HOBJ
  have HPT := Lib.hid hput
  have HH2 := Lib.hid H2
  have HBF := Lib.hid hbF
  have HGF := Lib.hid hGF
  have HRLT := Lib.hid hrlt
  clear kb kb1 kb2 hs1 hca H2 c2 HOBJ HOBJ0 hrlt hGF hput HOC c4 c0 hrd hd hdl hP hi hs H hbF hx hk
  go_enter Tryd.func8, Tryd.ntmps8
  go_upto_region 1 with fail
  generalize hw2 : ((w.alloc (.cells #[.int .i64 5, .int .i64 0, .string ⟨#[]⟩, .int .i64 a] 38)).alloc (.cells #[.int .i64 5, .int .i64 0, .string ⟨#[]⟩, .int .i64 v] 38)) = w2 at *
  generalize hb7 : w.heap.size + 1 = b7 at *
  generalize hb6 : w.heap.size = b6 at *
  have HB76 := Lib.hid (And.intro hb6 hb7)
  clear hw2 hb7 hb6
  go_upto_region 2 with (go_at_call 18; refine HTB.out.mono ?_; rintro e w3 ⟨rfl, hc3⟩)
  have HC3 := Lib.hid hc3
  have k00 := cell_of_block (i := 0) (hc3.keep HKA.out (fun x => x)) rfl
  have k01 := cell_of_block (i := 1) (hc3.keep HKA.out (fun x => x)) rfl
  have k02 := cell_of_block (i := 2) (hc3.keep HKA.out (fun x => x)) rfl
  have k03 := cell_of_block (i := 3) (hc3.keep HKA.out (fun x => x)) rfl
  simp only [List.getElem_toArray, List.getElem_cons_zero, List.getElem_cons_succ] at k00 k01 k02 k03
  have c0 := hc3.cell HC0.out
  have zz : ((5 : Int) != 5) = false := rfl
  have zz2 : ((5 : Int) == 5) = true := rfl
  have HEN := Lib.hid (entry_any w3 gh (oh + i * 11 + 1) x.data.length cd ad P a (hc3.cell HC4.out) HDL.out (by have := HP.out; omega) (by have h := HRD.out.chg hc3 (fun _ _ x => x); rw [HD.out] at h ⊢; exact h))
  clear hc3 HTB
  go_upto_region 5 with (go_at_call 19; refine HEN.out.mono ?_; rintro e w4 ⟨r, rfl, hc4, hr⟩)
  have HC24 := Lib.hid (HC3.out.trans' hc4)
  have HR := Lib.hid hr
  clear hc4 hr HEN k00 k01 k02 k03 c0 HC3 zz zz2
  obtain rfl : r = -1 := by
    rcases HR.out with ⟨e, -⟩ | ⟨q, hq, -, e⟩
    · exact e
    · exact absurd e (HAX.out _ (List.getElem_mem hq))
  clear HR
  have c4 := HC24.out.cell HC4.out
  have tq : ((x.data.length : Int)).tdiv 2 = ((P.length : Nat) : Int) := by rw [HDL.out]; show (((2 * P.length) / 2 : Nat) : Int) = _; rw [Nat.mul_div_cancel_left _ (by omega)]
  have pl : (P.length : Int) ≤ 400 := by have := HP.out; omega
  have HOB4 := Lib.hid (HOB.out.still HC24.out)
  obtain ⟨p, cap, xs', Fs, Fr, c4', hopen, ff0, hstay, hback⟩ := HOB4.out.fieldAppendingAll objR_data (by show 0 < 10; decide)
  have hpe : p = ad ∧ cap = cd := by
    rw [c4] at c4'
    cases c4'
    exact ⟨rfl, rfl⟩
  obtain ⟨rfl, rfl⟩ := hpe
  clear c4'
  have HE := Lib.hid elem_val
  have HST := Lib.hid hstay
  have HBA := Lib.hid hback
  have HLE : Hid (x.data.length ≤ 800) := Lib.hid (by have := HDL.out; have := HP.out; omega)
  have HN1 : Hid (¬ (Value.slice p x.data.length cap).ownBlock = some b6) := Lib.hid (fun hj => by
    have h2 := HRLT.out b6 hj
    omega)
  have HN2 : Hid (¬ (Value.slice p x.data.length cap).ownBlock = some b7) := Lib.hid (fun hj => by
    have h2 := HRLT.out b7 hj
    have := HB76.out
    omega)
  have m0 := cell_of_block (i := 0) (HC24.out.keep HKV.out (fun x => x)) rfl
  have m1 := cell_of_block (i := 1) (HC24.out.keep HKV.out (fun x => x)) rfl
  have m2 := cell_of_block (i := 2) (HC24.out.keep HKV.out (fun x => x)) rfl
  have m3 := cell_of_block (i := 3) (HC24.out.keep HKV.out (fun x => x)) rfl
  have k0 := cell_of_block (i := 0) (HC24.out.keep HKA.out (fun x => x)) rfl
  have k1 := cell_of_block (i := 1) (HC24.out.keep HKA.out (fun x => x)) rfl
  have k2 := cell_of_block (i := 2) (HC24.out.keep HKA.out (fun x => x)) rfl
  have k3 := cell_of_block (i := 3) (HC24.out.keep HKA.out (fun x => x)) rfl
  simp only [List.getElem_toArray, List.getElem_cons_zero, List.getElem_cons_succ] at m0 m1 m2 m3 k0 k1 k2 k3
  have HS0 : Hid (w4.cell? ⟨gh, oh + i * 11 + 1 + 4, none⟩ = some (.slice p x.data.length cap) ∧ w4.cell? ⟨b6, 0, none⟩ = some (.int .i64 5) ∧ w4.cell? ⟨b6, 1, none⟩ = some (.int .i64 0) ∧ w4.cell? ⟨b6, 2, none⟩ = some (.string ⟨#[]⟩) ∧ w4.cell? ⟨b6, 3, none⟩ = some (.int .i64 a) ∧ w4.cell? ⟨b7, 0, none⟩ = some (.int .i64 5) ∧ w4.cell? ⟨b7, 1, none⟩ = some (.int .i64 0) ∧ w4.cell? ⟨b7, 2, none⟩ = some (.string ⟨#[]⟩) ∧ w4.cell? ⟨b7, 3, none⟩ = some (.int .i64 v)) := Lib.hid ⟨c4, k0, k1, k2, k3, m0, m1, m2, m3⟩
  have HNM := Lib.hid (fun (h : Int) (W : World) => normal_ref h W)
  have HOPN := Lib.hid hopen
  clear m0 m1 m2 m3 k0 k1 k2 k3 hstay hback ff0 hopen
  go_upto_region 10 with fail
  refine wp_region_held_split 13 (fun w' => w'.cell? ⟨gh, oh + i * 11 + 1 + 4, none⟩ = some (.slice p x.data.length cap) ∧ w'.cell? ⟨b6, 0, none⟩ = some (.int .i64 5) ∧ w'.cell? ⟨b6, 1, none⟩ = some (.int .i64 0) ∧ w'.cell? ⟨b6, 2, none⟩ = some (.string ⟨#[]⟩) ∧ w'.cell? ⟨b6, 3, none⟩ = some (.int .i64 a) ∧ w'.cell? ⟨b7, 0, none⟩ = some (.int .i64 5) ∧ w'.cell? ⟨b7, 1, none⟩ = some (.int .i64 0) ∧ w'.cell? ⟨b7, 2, none⟩ = some (.string ⟨#[]⟩) ∧ w'.cell? ⟨b7, 3, none⟩ = some (.int .i64 v)) (by kernel_rfl) (by kernel_rfl) ?_ (fun hHeld => ?_)
  · (first | exact HS0.out | exact HKS.out _ HCD.out | exact HKS.out _ (HCD.out.allocR _) | exact ⟨cc2, hchg2.cellS (HKS.out _ (HCD.out.allocR (.cells #[.int .i64 5, .int .i64 0, .string ⟨#[]⟩, .int .i64 a, .int .i64 5, .int .i64 0, .string ⟨#[]⟩, .int .i64 v] 38))).2.1 HN1.out, hchg2.cellS (HKS.out _ (HCD.out.allocR (.cells #[.int .i64 5, .int .i64 0, .string ⟨#[]⟩, .int .i64 a, .int .i64 5, .int .i64 0, .string ⟨#[]⟩, .int .i64 v] 38))).2.2.1 HN1.out, hchg2.cellS (HKS.out _ (HCD.out.allocR (.cells #[.int .i64 5, .int .i64 0, .string ⟨#[]⟩, .int .i64 a, .int .i64 5, .int .i64 0, .string ⟨#[]⟩, .int .i64 v] 38))).2.2.2.1 HN1.out, hchg2.cellS (HKS.out _ (HCD.out.allocR (.cells #[.int .i64 5, .int .i64 0, .string ⟨#[]⟩, .int .i64 a, .int .i64 5, .int .i64 0, .string ⟨#[]⟩, .int .i64 v] 38))).2.2.2.2.1 HN1.out, hchg2.cellS (HKS.out _ (HCD.out.allocR (.cells #[.int .i64 5, .int .i64 0, .string ⟨#[]⟩, .int .i64 a, .int .i64 5, .int .i64 0, .string ⟨#[]⟩, .int .i64 v] 38))).2.2.2.2.2.1 HN2.out, hchg2.cellS (HKS.out _ (HCD.out.allocR (.cells #[.int .i64 5, .int .i64 0, .string ⟨#[]⟩, .int .i64 a, .int .i64 5, .int .i64 0, .string ⟨#[]⟩, .int .i64 v] 38))).2.2.2.2.2.2.1 HN2.out, hchg2.cellS (HKS.out _ (HCD.out.allocR (.cells #[.int .i64 5, .int .i64 0, .string ⟨#[]⟩, .int .i64 a, .int .i64 5, .int .i64 0, .string ⟨#[]⟩, .int .i64 v] 38))).2.2.2.2.2.2.2.1 HN2.out, hchg2.cellS (HKS.out _ (HCD.out.allocR (.cells #[.int .i64 5, .int .i64 0, .string ⟨#[]⟩, .int .i64 a, .int .i64 5, .int .i64 0, .string ⟨#[]⟩, .int .i64 v] 38))).2.2.2.2.2.2.2.2 HN2.out⟩)
  simp only [List.take_succ_cons, List.take_zero]
  have HKS : Hid (∀ W, Chg (fun _ => False) w4.drew W → W.cell? ⟨gh, oh + i * 11 + 1 + 4, none⟩ = some (.slice p x.data.length cap) ∧ W.cell? ⟨b6, 0, none⟩ = some (.int .i64 5) ∧ W.cell? ⟨b6, 1, none⟩ = some (.int .i64 0) ∧ W.cell? ⟨b6, 2, none⟩ = some (.string ⟨#[]⟩) ∧ W.cell? ⟨b6, 3, none⟩ = some (.int .i64 a) ∧ W.cell? ⟨b7, 0, none⟩ = some (.int .i64 5) ∧ W.cell? ⟨b7, 1, none⟩ = some (.int .i64 0) ∧ W.cell? ⟨b7, 2, none⟩ = some (.string ⟨#[]⟩) ∧ W.cell? ⟨b7, 3, none⟩ = some (.int .i64 v)) := Lib.hid (fun W hc => ⟨hc.cell HS0.out.1, hc.cell HS0.out.2.1, hc.cell HS0.out.2.2.1, hc.cell HS0.out.2.2.2.1, hc.cell HS0.out.2.2.2.2.1, hc.cell HS0.out.2.2.2.2.2.1, hc.cell HS0.out.2.2.2.2.2.2.1, hc.cell HS0.out.2.2.2.2.2.2.2.1, hc.cell HS0.out.2.2.2.2.2.2.2.2⟩)
  have HRA : Hid (∀ W, Chg (fun _ => False) w4.drew W → RowAt W 38 4 (.slice p x.data.length cap) x.data.length xs'.flatten) := Lib.hid (fun W hc => (HOPN.out.row.drew).chg hc (fun _ _ x => x))
  have HWD : Hid (Chg (fun _ => False) w4 w4.drew) := Lib.hid (Chg.refl _ w4).drewR
  generalize w4.drew = wD at *
  have HCD := Lib.hid (Chg.refl (fun _ => False) wD)
  refine wpAnyH_take (i := 0) (v := ?_) rfl (by kernel_rfl) (by kernel_rfl) (by kernel_rfl) (fun _ _ _ h => h) (Or.inl ⟨by rfl, ?_⟩) (by assumption) ?_
  rotate_left
  · (intro wq hSw; (try dsimp only at hSw); go_simp; (try with_reducible rfl))
  simp only [Act.put, List.getElem_toArray, List.getElem_cons_zero, List.getElem_cons_succ, List.setIfInBounds_toArray, List.set_cons_zero, List.set_cons_succ]
  refine wpAnyH_take (i := 1) (v := ?_) rfl (by kernel_rfl) (by kernel_rfl) (by kernel_rfl) (fun _ _ _ h => h) (Or.inl ⟨by rfl, ?_⟩) (by assumption) ?_
  rotate_left
  · (intro wq hSw; (try dsimp only at hSw); go_simp; (try with_reducible rfl))
  simp only [Act.put, List.getElem_toArray, List.getElem_cons_zero, List.getElem_cons_succ, List.setIfInBounds_toArray, List.set_cons_zero, List.set_cons_succ]
  refine wpAnyH_take (i := 2) (v := ?_) rfl (by kernel_rfl) (by kernel_rfl) (by kernel_rfl) (fun _ _ _ h => h) (Or.inl ⟨by rfl, ?_⟩) (by assumption) ?_
  rotate_left
  · (intro wq hSw; (try dsimp only at hSw); go_simp; (try with_reducible rfl))
  simp only [Act.put, List.getElem_toArray, List.getElem_cons_zero, List.getElem_cons_succ, List.setIfInBounds_toArray, List.set_cons_zero, List.set_cons_succ]
  refine wpAnyH_take (i := 3) (v := ?_) rfl (by kernel_rfl) (by kernel_rfl) (by kernel_rfl) (fun _ _ _ h => h) (Or.inl ⟨by rfl, ?_⟩) (by assumption) ?_
  rotate_left
  · (intro wq hSw; (try dsimp only at hSw); go_simp; (try with_reducible rfl))
  simp only [Act.put, List.getElem_toArray, List.getElem_cons_zero, List.getElem_cons_succ, List.setIfInBounds_toArray, List.set_cons_zero, List.set_cons_succ]
  refine wpAnyH_take (i := 4) (v := ?_) rfl (by kernel_rfl) (by kernel_rfl) (by kernel_rfl) (fun _ _ _ h => h) (Or.inl ⟨by rfl, ?_⟩) (by assumption) ?_
  rotate_left
  · (intro wq hSw; (try dsimp only at hSw); go_simp; (try with_reducible rfl))
  simp only [Act.put, List.getElem_toArray, List.getElem_cons_zero, List.getElem_cons_succ, List.setIfInBounds_toArray, List.set_cons_zero, List.set_cons_succ]
  refine wpAnyH_take (i := 5) (v := ?_) rfl (by kernel_rfl) (by kernel_rfl) (by kernel_rfl) (fun _ _ _ h => h) (Or.inl ⟨by rfl, ?_⟩) (by assumption) ?_
  rotate_left
  · (intro wq hSw; (try dsimp only at hSw); go_simp; (try with_reducible rfl))
  simp only [Act.put, List.getElem_toArray, List.getElem_cons_zero, List.getElem_cons_succ, List.setIfInBounds_toArray, List.set_cons_zero, List.set_cons_succ]
  refine wpAnyH_take (i := 7) (v := ?_) rfl (by kernel_rfl) (by kernel_rfl) (by kernel_rfl) (fun _ _ _ h => h) (Or.inl ⟨by rfl, ?_⟩) (by assumption) ?_
  rotate_left
  · (intro wq hSw; (try dsimp only at hSw); go_simp; (try with_reducible rfl))
  simp only [Act.put, List.getElem_toArray, List.getElem_cons_zero, List.getElem_cons_succ, List.setIfInBounds_toArray, List.set_cons_zero, List.set_cons_succ]
  refine wpAnyH_ready (rs := [6]) (by kernel_rfl) (by simp) ?_
  refine AllReadyH.cons (by simp only [List.getElem?_toArray, List.getElem?_cons_succ, List.getElem?_cons_zero]; rfl) (fun K hK => ?_) AllReadyH.nil
  (first
  | (go_simp; go_at_call 20; refine (HNM.out _ _).mono ?_; rintro _ wd ⟨rfl, hcd⟩; have HCD := Lib.hid (HCD.out.trans' hcd); clear hcd; go_simp)
  | (refine step_append_elems 2 (by decide) (by rfl) _ _ _ (by rfl) 38 4 40 Tryd.underlying59 HE.out (by decide) _ x.data.length xs'.flatten (by rfl) (HRA.out _ (HCD.out.allocR (.cells #[.int .i64 5, .int .i64 0, .string ⟨#[]⟩, .int .i64 a, .int .i64 5, .int .i64 0, .string ⟨#[]⟩, .int .i64 v] 38))) [.int .i64 5, .int .i64 0, .string ⟨#[]⟩, .int .i64 a, .int .i64 5, .int .i64 0, .string ⟨#[]⟩, .int .i64 v] rfl wd.heap.size 38 (0, 0) (by rfl) (alloc_block wd _) (by simp [Value.oneCell']) (by have := HLE.out; unfold maxLen; omega) (by have := HLE.out; omega) ?_; intro a2 n2 cp2 w2_ hrow2 hchg2 hold2; have cc2 := (HST.out _ _ (HWD.out.trans' (HCD.out.allocR (.cells #[.int .i64 5, .int .i64 0, .string ⟨#[]⟩, .int .i64 a, .int .i64 5, .int .i64 0, .string ⟨#[]⟩, .int .i64 v] 38))) hchg2).1; have f2 := (HST.out _ _ (HWD.out.trans' (HCD.out.allocR (.cells #[.int .i64 5, .int .i64 0, .string ⟨#[]⟩, .int .i64 a, .int .i64 5, .int .i64 0, .string ⟨#[]⟩, .int .i64 v] 38))) hchg2).2))
  refine hK.out _ _ ?_ (fun hHeld => ?_)
  · (first | exact HS0.out | exact HKS.out _ HCD.out | exact HKS.out _ (HCD.out.allocR _) | exact ⟨cc2, hchg2.cellS (HKS.out _ (HCD.out.allocR (.cells #[.int .i64 5, .int .i64 0, .string ⟨#[]⟩, .int .i64 a, .int .i64 5, .int .i64 0, .string ⟨#[]⟩, .int .i64 v] 38))).2.1 HN1.out, hchg2.cellS (HKS.out _ (HCD.out.allocR (.cells #[.int .i64 5, .int .i64 0, .string ⟨#[]⟩, .int .i64 a, .int .i64 5, .int .i64 0, .string ⟨#[]⟩, .int .i64 v] 38))).2.2.1 HN1.out, hchg2.cellS (HKS.out _ (HCD.out.allocR (.cells #[.int .i64 5, .int .i64 0, .string ⟨#[]⟩, .int .i64 a, .int .i64 5, .int .i64 0, .string ⟨#[]⟩, .int .i64 v] 38))).2.2.2.1 HN1.out, hchg2.cellS (HKS.out _ (HCD.out.allocR (.cells #[.int .i64 5, .int .i64 0, .string ⟨#[]⟩, .int .i64 a, .int .i64 5, .int .i64 0, .string ⟨#[]⟩, .int .i64 v] 38))).2.2.2.2.1 HN1.out, hchg2.cellS (HKS.out _ (HCD.out.allocR (.cells #[.int .i64 5, .int .i64 0, .string ⟨#[]⟩, .int .i64 a, .int .i64 5, .int .i64 0, .string ⟨#[]⟩, .int .i64 v] 38))).2.2.2.2.2.1 HN2.out, hchg2.cellS (HKS.out _ (HCD.out.allocR (.cells #[.int .i64 5, .int .i64 0, .string ⟨#[]⟩, .int .i64 a, .int .i64 5, .int .i64 0, .string ⟨#[]⟩, .int .i64 v] 38))).2.2.2.2.2.2.1 HN2.out, hchg2.cellS (HKS.out _ (HCD.out.allocR (.cells #[.int .i64 5, .int .i64 0, .string ⟨#[]⟩, .int .i64 a, .int .i64 5, .int .i64 0, .string ⟨#[]⟩, .int .i64 v] 38))).2.2.2.2.2.2.2.1 HN2.out, hchg2.cellS (HKS.out _ (HCD.out.allocR (.cells #[.int .i64 5, .int .i64 0, .string ⟨#[]⟩, .int .i64 a, .int .i64 5, .int .i64 0, .string ⟨#[]⟩, .int .i64 v] 38))).2.2.2.2.2.2.2.2 HN2.out⟩)
  clear hK K
  (try simp only [Act.put, List.getElem_toArray, List.getElem_cons_zero, List.getElem_cons_succ, List.setIfInBounds_toArray, List.set_cons_zero, List.set_cons_succ])
  refine wpAnyH_ready (rs := [8]) (by kernel_rfl) (by simp) ?_
  refine AllReadyH.cons (by simp only [List.getElem?_toArray, List.getElem?_cons_succ, List.getElem?_cons_zero]; rfl) (fun K hK => ?_) AllReadyH.nil
  (first
  | (go_simp; go_at_call 20; refine (HNM.out _ _).mono ?_; rintro _ wd ⟨rfl, hcd⟩; have HCD := Lib.hid (HCD.out.trans' hcd); clear hcd; go_simp)
  | (refine step_append_elems 2 (by decide) (by rfl) _ _ _ (by rfl) 38 4 40 Tryd.underlying59 HE.out (by decide) _ x.data.length xs'.flatten (by rfl) (HRA.out _ (HCD.out.allocR (.cells #[.int .i64 5, .int .i64 0, .string ⟨#[]⟩, .int .i64 a, .int .i64 5, .int .i64 0, .string ⟨#[]⟩, .int .i64 v] 38))) [.int .i64 5, .int .i64 0, .string ⟨#[]⟩, .int .i64 a, .int .i64 5, .int .i64 0, .string ⟨#[]⟩, .int .i64 v] rfl wd.heap.size 38 (0, 0) (by rfl) (alloc_block wd _) (by simp [Value.oneCell']) (by have := HLE.out; unfold maxLen; omega) (by have := HLE.out; omega) ?_; intro a2 n2 cp2 w2_ hrow2 hchg2 hold2; have cc2 := (HST.out _ _ (HWD.out.trans' (HCD.out.allocR (.cells #[.int .i64 5, .int .i64 0, .string ⟨#[]⟩, .int .i64 a, .int .i64 5, .int .i64 0, .string ⟨#[]⟩, .int .i64 v] 38))) hchg2).1; have f2 := (HST.out _ _ (HWD.out.trans' (HCD.out.allocR (.cells #[.int .i64 5, .int .i64 0, .string ⟨#[]⟩, .int .i64 a, .int .i64 5, .int .i64 0, .string ⟨#[]⟩, .int .i64 v] 38))) hchg2).2))
  refine hK.out _ _ ?_ (fun hHeld => ?_)
  · (first | exact HS0.out | exact HKS.out _ HCD.out | exact HKS.out _ (HCD.out.allocR _) | exact ⟨cc2, hchg2.cellS (HKS.out _ (HCD.out.allocR (.cells #[.int .i64 5, .int .i64 0, .string ⟨#[]⟩, .int .i64 a, .int .i64 5, .int .i64 0, .string ⟨#[]⟩, .int .i64 v] 38))).2.1 HN1.out, hchg2.cellS (HKS.out _ (HCD.out.allocR (.cells #[.int .i64 5, .int .i64 0, .string ⟨#[]⟩, .int .i64 a, .int .i64 5, .int .i64 0, .string ⟨#[]⟩, .int .i64 v] 38))).2.2.1 HN1.out, hchg2.cellS (HKS.out _ (HCD.out.allocR (.cells #[.int .i64 5, .int .i64 0, .string ⟨#[]⟩, .int .i64 a, .int .i64 5, .int .i64 0, .string ⟨#[]⟩, .int .i64 v] 38))).2.2.2.1 HN1.out, hchg2.cellS (HKS.out _ (HCD.out.allocR (.cells #[.int .i64 5, .int .i64 0, .string ⟨#[]⟩, .int .i64 a, .int .i64 5, .int .i64 0, .string ⟨#[]⟩, .int .i64 v] 38))).2.2.2.2.1 HN1.out, hchg2.cellS (HKS.out _ (HCD.out.allocR (.cells #[.int .i64 5, .int .i64 0, .string ⟨#[]⟩, .int .i64 a, .int .i64 5, .int .i64 0, .string ⟨#[]⟩, .int .i64 v] 38))).2.2.2.2.2.1 HN2.out, hchg2.cellS (HKS.out _ (HCD.out.allocR (.cells #[.int .i64 5, .int .i64 0, .string ⟨#[]⟩, .int .i64 a, .int .i64 5, .int .i64 0, .string ⟨#[]⟩, .int .i64 v] 38))).2.2.2.2.2.2.1 HN2.out, hchg2.cellS (HKS.out _ (HCD.out.allocR (.cells #[.int .i64 5, .int .i64 0, .string ⟨#[]⟩, .int .i64 a, .int .i64 5, .int .i64 0, .string ⟨#[]⟩, .int .i64 v] 38))).2.2.2.2.2.2.2.1 HN2.out, hchg2.cellS (HKS.out _ (HCD.out.allocR (.cells #[.int .i64 5, .int .i64 0, .string ⟨#[]⟩, .int .i64 a, .int .i64 5, .int .i64 0, .string ⟨#[]⟩, .int .i64 v] 38))).2.2.2.2.2.2.2.2 HN2.out⟩)
  clear hK K
  (try simp only [Act.put, List.getElem_toArray, List.getElem_cons_zero, List.getElem_cons_succ, List.setIfInBounds_toArray, List.set_cons_zero, List.set_cons_succ])
  refine wpAnyH_ready (rs := [9]) (by kernel_rfl) (by simp) ?_
  refine AllReadyH.cons (by simp only [List.getElem?_toArray, List.getElem?_cons_succ, List.getElem?_cons_zero]; rfl) (fun K hK => ?_) AllReadyH.nil
  go_simp
  refine hK.out _ _ ?_ (fun hHeld => ?_)
  · (first | exact HS0.out | exact HKS.out _ HCD.out | exact HKS.out _ (HCD.out.allocR _) | exact ⟨cc2, hchg2.cellS (HKS.out _ (HCD.out.allocR (.cells #[.int .i64 5, .int .i64 0, .string ⟨#[]⟩, .int .i64 a, .int .i64 5, .int .i64 0, .string ⟨#[]⟩, .int .i64 v] 38))).2.1 HN1.out, hchg2.cellS (HKS.out _ (HCD.out.allocR (.cells #[.int .i64 5, .int .i64 0, .string ⟨#[]⟩, .int .i64 a, .int .i64 5, .int .i64 0, .string ⟨#[]⟩, .int .i64 v] 38))).2.2.1 HN1.out, hchg2.cellS (HKS.out _ (HCD.out.allocR (.cells #[.int .i64 5, .int .i64 0, .string ⟨#[]⟩, .int .i64 a, .int .i64 5, .int .i64 0, .string ⟨#[]⟩, .int .i64 v] 38))).2.2.2.1 HN1.out, hchg2.cellS (HKS.out _ (HCD.out.allocR (.cells #[.int .i64 5, .int .i64 0, .string ⟨#[]⟩, .int .i64 a, .int .i64 5, .int .i64 0, .string ⟨#[]⟩, .int .i64 v] 38))).2.2.2.2.1 HN1.out, hchg2.cellS (HKS.out _ (HCD.out.allocR (.cells #[.int .i64 5, .int .i64 0, .string ⟨#[]⟩, .int .i64 a, .int .i64 5, .int .i64 0, .string ⟨#[]⟩, .int .i64 v] 38))).2.2.2.2.2.1 HN2.out, hchg2.cellS (HKS.out _ (HCD.out.allocR (.cells #[.int .i64 5, .int .i64 0, .string ⟨#[]⟩, .int .i64 a, .int .i64 5, .int .i64 0, .string ⟨#[]⟩, .int .i64 v] 38))).2.2.2.2.2.2.1 HN2.out, hchg2.cellS (HKS.out _ (HCD.out.allocR (.cells #[.int .i64 5, .int .i64 0, .string ⟨#[]⟩, .int .i64 a, .int .i64 5, .int .i64 0, .string ⟨#[]⟩, .int .i64 v] 38))).2.2.2.2.2.2.2.1 HN2.out, hchg2.cellS (HKS.out _ (HCD.out.allocR (.cells #[.int .i64 5, .int .i64 0, .string ⟨#[]⟩, .int .i64 a, .int .i64 5, .int .i64 0, .string ⟨#[]⟩, .int .i64 v] 38))).2.2.2.2.2.2.2.2 HN2.out⟩)
  clear hK K
  (try simp only [Act.put, List.getElem_toArray, List.getElem_cons_zero, List.getElem_cons_succ, List.setIfInBounds_toArray, List.set_cons_zero, List.set_cons_succ])
  refine wpAnyH_ready (rs := [10]) (by kernel_rfl) (by simp) ?_
  refine AllReadyH.cons (by simp only [List.getElem?_toArray, List.getElem?_cons_succ, List.getElem?_cons_zero]; rfl) (fun K hK => ?_) AllReadyH.nil
  (first
  | (go_simp; go_at_call 20; refine (HNM.out _ _).mono ?_; rintro _ wd ⟨rfl, hcd⟩; have HCD := Lib.hid (HCD.out.trans' hcd); clear hcd; go_simp)
  | (refine step_append_elems 2 (by decide) (by rfl) _ _ _ (by rfl) 38 4 40 Tryd.underlying59 HE.out (by decide) _ x.data.length xs'.flatten (by rfl) (HRA.out _ (HCD.out.allocR (.cells #[.int .i64 5, .int .i64 0, .string ⟨#[]⟩, .int .i64 a, .int .i64 5, .int .i64 0, .string ⟨#[]⟩, .int .i64 v] 38))) [.int .i64 5, .int .i64 0, .string ⟨#[]⟩, .int .i64 a, .int .i64 5, .int .i64 0, .string ⟨#[]⟩, .int .i64 v] rfl wd.heap.size 38 (0, 0) (by rfl) (alloc_block wd _) (by simp [Value.oneCell']) (by have := HLE.out; unfold maxLen; omega) (by have := HLE.out; omega) ?_; intro a2 n2 cp2 w2_ hrow2 hchg2 hold2; have cc2 := (HST.out _ _ (HWD.out.trans' (HCD.out.allocR (.cells #[.int .i64 5, .int .i64 0, .string ⟨#[]⟩, .int .i64 a, .int .i64 5, .int .i64 0, .string ⟨#[]⟩, .int .i64 v] 38))) hchg2).1; have f2 := (HST.out _ _ (HWD.out.trans' (HCD.out.allocR (.cells #[.int .i64 5, .int .i64 0, .string ⟨#[]⟩, .int .i64 a, .int .i64 5, .int .i64 0, .string ⟨#[]⟩, .int .i64 v] 38))) hchg2).2))
  refine hK.out _ _ ?_ (fun hHeld => ?_)
  · (first | exact HS0.out | exact HKS.out _ HCD.out | exact HKS.out _ (HCD.out.allocR _) | exact ⟨cc2, hchg2.cellS (HKS.out _ (HCD.out.allocR (.cells #[.int .i64 5, .int .i64 0, .string ⟨#[]⟩, .int .i64 a, .int .i64 5, .int .i64 0, .string ⟨#[]⟩, .int .i64 v] 38))).2.1 HN1.out, hchg2.cellS (HKS.out _ (HCD.out.allocR (.cells #[.int .i64 5, .int .i64 0, .string ⟨#[]⟩, .int .i64 a, .int .i64 5, .int .i64 0, .string ⟨#[]⟩, .int .i64 v] 38))).2.2.1 HN1.out, hchg2.cellS (HKS.out _ (HCD.out.allocR (.cells #[.int .i64 5, .int .i64 0, .string ⟨#[]⟩, .int .i64 a, .int .i64 5, .int .i64 0, .string ⟨#[]⟩, .int .i64 v] 38))).2.2.2.1 HN1.out, hchg2.cellS (HKS.out _ (HCD.out.allocR (.cells #[.int .i64 5, .int .i64 0, .string ⟨#[]⟩, .int .i64 a, .int .i64 5, .int .i64 0, .string ⟨#[]⟩, .int .i64 v] 38))).2.2.2.2.1 HN1.out, hchg2.cellS (HKS.out _ (HCD.out.allocR (.cells #[.int .i64 5, .int .i64 0, .string ⟨#[]⟩, .int .i64 a, .int .i64 5, .int .i64 0, .string ⟨#[]⟩, .int .i64 v] 38))).2.2.2.2.2.1 HN2.out, hchg2.cellS (HKS.out _ (HCD.out.allocR (.cells #[.int .i64 5, .int .i64 0, .string ⟨#[]⟩, .int .i64 a, .int .i64 5, .int .i64 0, .string ⟨#[]⟩, .int .i64 v] 38))).2.2.2.2.2.2.1 HN2.out, hchg2.cellS (HKS.out _ (HCD.out.allocR (.cells #[.int .i64 5, .int .i64 0, .string ⟨#[]⟩, .int .i64 a, .int .i64 5, .int .i64 0, .string ⟨#[]⟩, .int .i64 v] 38))).2.2.2.2.2.2.2.1 HN2.out, hchg2.cellS (HKS.out _ (HCD.out.allocR (.cells #[.int .i64 5, .int .i64 0, .string ⟨#[]⟩, .int .i64 a, .int .i64 5, .int .i64 0, .string ⟨#[]⟩, .int .i64 v] 38))).2.2.2.2.2.2.2.2 HN2.out⟩)
  clear hK K
  (try simp only [Act.put, List.getElem_toArray, List.getElem_cons_zero, List.getElem_cons_succ, List.setIfInBounds_toArray, List.set_cons_zero, List.set_cons_succ])
  refine wpAnyH_take (i := 11) (v := ?_) rfl (by kernel_rfl) (by kernel_rfl) (by kernel_rfl) (fun _ _ _ h => h) (Or.inl ⟨by rfl, ?_⟩) (by assumption) ?_
  rotate_left
  · (intro wq hSw; (try dsimp only at hSw); go_simp; (try with_reducible rfl))
  simp only [Act.put, List.getElem_toArray, List.getElem_cons_zero, List.getElem_cons_succ, List.setIfInBounds_toArray, List.set_cons_zero, List.set_cons_succ]
  refine wpAnyH_take (i := 12) (v := ?_) rfl (by kernel_rfl) (by kernel_rfl) (by kernel_rfl) (fun _ _ _ h => h) (Or.inl ⟨by rfl, ?_⟩) (by assumption) ?_
  rotate_left
  · (intro wq hSw; (try dsimp only at hSw); go_simp; (try with_reducible rfl))
  simp only [Act.put, List.getElem_toArray, List.getElem_cons_zero, List.getElem_cons_succ, List.setIfInBounds_toArray, List.set_cons_zero, List.set_cons_succ]
  refine wpAnyH_done (by kernel_rfl) ?_ _
  change wpList _ _ _ _ _ _
  simp only [List.drop_succ_cons, List.drop_zero]
  have P9 := HBA.out _ _ [[.int .i64 5, .int .i64 0, .string ⟨#[]⟩, .int .i64 a], [.int .i64 5, .int .i64 0, .string ⟨#[]⟩, .int .i64 v]] [refV a, refV v] [[], []] _ (HWD.out.trans' (HCD.out.allocR (.cells #[.int .i64 5, .int .i64 0, .string ⟨#[]⟩, .int .i64 a, .int .i64 5, .int .i64 0, .string ⟨#[]⟩, .int .i64 v] 38))) (.cons (refV_own _ a) (.cons (refV_own _ v) .nil)) (by simp) (by simp) hrow2 hchg2 hold2
  clear hHeld
  go_wp2_with fail
  go_ret
  exact ⟨rfl, HPT.out _ _ (Post.pre HCA.out (Post.pre HC24.out P9))⟩
end Go.Proofs.YthiiehanlconeaaDoor
