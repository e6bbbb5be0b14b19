/-
  History.clean, History.sleep.
  Moves in memory.
  The reference's comparisons of layer 48: two things that are the same.
  An operation of the law, plainly; the law's table of pages.
  History.Evict, New; one entry of the list is edited.
  Histories as values; the reference's Same.
-/
import Derived.Test.YtiecgbmeobpomaaDoorPHistoryNewd
import Derived.Deep.QuietTactic
import Derived.BigQuiet
namespace Go.Proofs.YtiecgbmeobpomaaDoor
open Go.RowKit
set_option linter.unusedVariables false
set_option linter.unusedSimpArgs false

set_option maxHeartbeats 6400000 in
set_option maxRecDepth 100000 in
theorem clean_any (w0 : Past) (w : World) (b : Nat) (h : Hist) (vl vs : Value) (rs : List EntR) (H : HiAt w0 w b h vl vs rs) :
    Calls Tryd.prog 44 #[.pointer (some ⟨b, 0, none⟩)] w fun z w' => ∃ vo vs', z = .returned vo ∧ HiAt w0 w' b (cleanM h) vl vs' rs ∧ Chg (Mut b vl vs) w w' ∧ (∀ k, Mut b vl vs' k → Mut b vl vs k) ∧ RowAt w' 3 1 vo (goneL h h.sleeping).length (intC (goneL h h.sleeping)) ∧ (∀ k, vo.ownBlock = some k → w.heap.size ≤ k) := by
  have hbl : b < w.heap.size := (Array.getElem?_eq_some_iff.1 H.box).1
  have HH := Lib.hid H
  have HW1 := Lib.hid (show Chg (fun _ => False) w (w.alloc (.cells #[.pointer (some ⟨b, 0, none⟩)] 46)) from Chg.alloc _ w _)
  have HW2 := Lib.hid (show Chg (fun _ => False) w ((w.alloc (.cells #[.pointer (some ⟨b, 0, none⟩)] 46)).alloc (.cells #[.slice none 0 0] 26)) from HW1.out.trans' (Chg.alloc _ _ _))
  have HB1 := Lib.hid (alloc_old (.cells #[.slice none 0 0] 26) (alloc_block w (.cells #[.pointer (some ⟨b, 0, none⟩)] 46)))
  have HB2 := Lib.hid (alloc_block (w.alloc (.cells #[.pointer (some ⟨b, 0, none⟩)] 46)) (.cells #[.slice none 0 0] 26))
  clear H
  go_enter Tryd.func44, Tryd.ntmps44
  go_upto_region 2 with fail
  have hs1 : (w.alloc (.cells #[.pointer (some ⟨b, 0, none⟩)] 46)).heap.size = w.heap.size + 1 := World.size_alloc ..
  rw [hs1] at HB2
  generalize (w.alloc (.cells #[.pointer (some ⟨b, 0, none⟩)] 46)).alloc (.cells #[.slice none 0 0] 26) = w2 at *
  have hI2 : ClI w b vs w.heap.size (w.heap.size + 1) w2 h.sleeping [] (.slice none 0 0) :=
    ⟨HH.out.slp.chg HW2.out (fun _ _ x => x), HH.out.few.2, cell_of_block (i := 0) HB1.out rfl, HB2.out, RowAt.nil _ _ _, fun k hk => by simp [Value.ownBlock] at hk, ⟨Nat.le_refl _, Nat.le_succ _, by omega⟩, HW2.out.mono (fun _ _ x => x.elim)⟩
  have HI2 := Lib.hid hI2
  have hb4 := cell_of_block (i := 4) HH.out.box rfl
  simp only [List.getElem_toArray, List.getElem_cons_zero, List.getElem_cons_succ] at hb4
  have HDF := Lib.hid (fun W (hc : Chg (fun _ => False) w2 W) => deleteFuncI_any w0 w b h vl vs rs HH.out _ _ W h.sleeping (.slice none 0 0) (hI2.still hc))
  have HS0 := Lib.hid (show w2.cell? ⟨w.heap.size, 0, none⟩ = some (.pointer (some ⟨b, 0, none⟩)) ∧ w2.cell? ⟨b, 4, none⟩ = some (vs) from ⟨hI2.pbc, HW2.out.cell hb4⟩)
  have CEL : Hid (∀ W, Chg (fun k => vs.ownBlock = some k) w W → W.cell? ⟨w.heap.size, 0, none⟩ = some (.pointer (some ⟨b, 0, none⟩)) → W.cell? ⟨w.heap.size, 0, none⟩ = some (.pointer (some ⟨b, 0, none⟩)) ∧ W.cell? ⟨b, 4, none⟩ = some (vs)) := Lib.hid (fun W h1 h2 => ⟨h2, h1.cellS hb4 HH.out.sb⟩)
  have FRZ : Hid (∀ W, Chg (fun k => vs.ownBlock = some k) w W → W.frozen? ⟨b, 4, none⟩ = false) := Lib.hid (fun W h1 => frozen_of_block (h1.keep HH.out.box HH.out.sb))
  clear hI2 hs1 hb4 HB1 HB2 HI2
  refine wp_region_held_split 9 (fun w' => w'.cell? ⟨w.heap.size, 0, none⟩ = some (.pointer (some ⟨b, 0, none⟩)) ∧ w'.cell? ⟨b, 4, none⟩ = some (vs)) (by kernel_rfl) (by kernel_rfl) ?_ (fun hHeld => ?_)
  · (first | exact HS0.out | exact HKS.out _ (Chg.refl _ _) | exact zc)
  simp only [List.take_succ_cons, List.take_zero]
  have HKS : Hid (∀ W, Chg (fun _ => False) w2.drew W → W.cell? ⟨w.heap.size, 0, none⟩ = some (.pointer (some ⟨b, 0, none⟩)) ∧ W.cell? ⟨b, 4, none⟩ = some (vs)) := Lib.hid (fun W hc => ⟨hc.cell HS0.out.1, hc.cell HS0.out.2⟩)
  have HWD : Hid (Chg (fun _ => False) w2 w2.drew) := Lib.hid (Chg.refl _ w2).drewR
  generalize w2.drew = wD at *
  refine wpAnyH_take (i := 0) (v := ?_) rfl (by kernel_rfl) (by kernel_rfl) (by kernel_rfl) (fun _ _ _ h => h) (Or.inl ⟨by rfl, ?_⟩) (by assumption) ?_
  rotate_left
  · (intro wq hSw; (try dsimp only at hSw); go_simp; (try with_reducible rfl))
  simp only [Act.put, List.getElem_toArray, List.getElem_cons_zero, List.getElem_cons_succ, List.setIfInBounds_toArray, List.set_cons_zero, List.set_cons_succ]
  refine wpAnyH_take (i := 1) (v := ?_) rfl (by kernel_rfl) (by kernel_rfl) (by kernel_rfl) (fun _ _ _ h => h) (Or.inl ⟨by rfl, ?_⟩) (by assumption) ?_
  rotate_left
  · (intro wq hSw; (try dsimp only at hSw); go_simp; (try with_reducible rfl))
  simp only [Act.put, List.getElem_toArray, List.getElem_cons_zero, List.getElem_cons_succ, List.setIfInBounds_toArray, List.set_cons_zero, List.set_cons_succ]
  refine wpAnyH_take (i := 2) (v := ?_) rfl (by kernel_rfl) (by kernel_rfl) (by kernel_rfl) (fun _ _ _ h => h) (Or.inl ⟨by rfl, ?_⟩) (by assumption) ?_
  rotate_left
  · (intro wq hSw; (try dsimp only at hSw); go_simp; (try with_reducible rfl))
  simp only [Act.put, List.getElem_toArray, List.getElem_cons_zero, List.getElem_cons_succ, List.setIfInBounds_toArray, List.set_cons_zero, List.set_cons_succ]
  refine wpAnyH_take (i := 3) (v := ?_) rfl (by kernel_rfl) (by kernel_rfl) (by kernel_rfl) (fun _ _ _ h => h) (Or.inl ⟨by rfl, ?_⟩) (by assumption) ?_
  rotate_left
  · (intro wq hSw; (try dsimp only at hSw); go_simp; (try with_reducible rfl))
  simp only [Act.put, List.getElem_toArray, List.getElem_cons_zero, List.getElem_cons_succ, List.setIfInBounds_toArray, List.set_cons_zero, List.set_cons_succ]
  refine wpAnyH_take (i := 4) (v := ?_) rfl (by kernel_rfl) (by kernel_rfl) (by kernel_rfl) (fun _ _ _ h => h) (Or.inl ⟨by rfl, ?_⟩) (by assumption) ?_
  rotate_left
  · (intro wq hSw; (try dsimp only at hSw); go_simp; (try with_reducible rfl))
  simp only [Act.put, List.getElem_toArray, List.getElem_cons_zero, List.getElem_cons_succ, List.setIfInBounds_toArray, List.set_cons_zero, List.set_cons_succ]
  refine wpAnyH_take (i := 5) (v := ?_) rfl (by kernel_rfl) (by kernel_rfl) (by kernel_rfl) (fun _ _ _ h => h) (Or.inl ⟨by rfl, ?_⟩) (by assumption) ?_
  rotate_left
  · (intro wq hSw; (try dsimp only at hSw); go_simp; (try with_reducible rfl))
  simp only [Act.put, List.getElem_toArray, List.getElem_cons_zero, List.getElem_cons_succ, List.setIfInBounds_toArray, List.set_cons_zero, List.set_cons_succ]
  refine wpAnyH_ready (rs := [6]) (by kernel_rfl) (by simp) ?_
  refine AllReadyH.cons (by simp only [List.getElem?_toArray, List.getElem?_cons_succ, List.getElem?_cons_zero]; rfl) (fun K hK => ?_) AllReadyH.nil
  (go_simp; go_at_call 54; refine (HDF.out _ HWD.out).mono ?_; rintro _ w5 ⟨v5, cur5, vo5, rfl, hI5, hrow5, hold5⟩; obtain ⟨a5, c5, rfl, -, -⟩ := hrow5.slice; have HI5 := Lib.hid hI5; have HROW5 := Lib.hid hrow5; have HOLD5 := Lib.hid hold5; have zc := CEL.out _ hI5.chg hI5.pbc; have zf := FRZ.out _ hI5.chg; clear hI5 hrow5 hold5; go_simp)
  refine hK.out _ _ ?_ (fun hHeld => ?_)
  · (first | exact HS0.out | exact HKS.out _ (Chg.refl _ _) | exact zc)
  clear hK K
  (try simp only [Act.put, List.getElem_toArray, List.getElem_cons_zero, List.getElem_cons_succ, List.setIfInBounds_toArray, List.set_cons_zero, List.set_cons_succ])
  refine wpAnyH_take (i := 7) (v := ?_) rfl (by kernel_rfl) (by kernel_rfl) (by kernel_rfl) (fun _ _ _ h => h) (Or.inl ⟨by rfl, ?_⟩) (by assumption) ?_
  rotate_left
  · (intro wq hSw; (try dsimp only at hSw); go_simp; (try with_reducible rfl))
  simp only [Act.put, List.getElem_toArray, List.getElem_cons_zero, List.getElem_cons_succ, List.setIfInBounds_toArray, List.set_cons_zero, List.set_cons_succ]
  refine wpAnyH_take (i := 8) (v := ?_) rfl (by kernel_rfl) (by kernel_rfl) (by kernel_rfl) (fun _ _ _ h => h) (Or.inl ⟨by rfl, ?_⟩) (by assumption) ?_
  rotate_left
  · (intro wq hSw; (try dsimp only at hSw); go_simp; (try with_reducible rfl))
  simp only [Act.put, List.getElem_toArray, List.getElem_cons_zero, List.getElem_cons_succ, List.setIfInBounds_toArray, List.set_cons_zero, List.set_cons_succ]
  refine wpAnyH_done (by kernel_rfl) ?_ _
  change wpList _ _ _ _ _ _
  simp only [List.drop_succ_cons, List.drop_zero]
  go_upto_region 3 with fail
  have hI5 := HI5.out
  have hcs : Chg (fun k => k = b) w5 (w5.setCell ⟨b, 4, none⟩ (.slice a5 (keptL h h.sleeping).length c5)) := Chg.setCell w5 ⟨b, 4, none⟩ _
  have hob := hcs.keep hI5.obb (by omega)
  have c0 := cell_of_block (i := 0) hob rfl
  simp only [List.getElem_toArray, List.getElem_cons_zero] at c0
  have HFI := Lib.hid (HH.out.resleep hI5.chg (keptL h h.sleeping) HROW5.out (Nat.le_trans (keptL_le _ _) HH.out.few.2) (fun k hk => .inl (HOLD5.out k hk)))
  have HVO := Lib.hid (hI5.row.chg hcs (fun k hk e => by have := (hI5.new k hk).1; omega))
  have HNW := Lib.hid (fun k (hk : vo5.ownBlock = some k) => (hI5.new k hk).1)
  have HCH := Lib.hid (hI5.chg.trans hcs (fun k _ x => (.inr (.inr x) : Mut b vl vs k)) (fun k _ x => .inl x))
  have HOL := Lib.hid (fun k (hk : (Value.slice a5 (keptL h h.sleeping).length c5).ownBlock = some k) => HOLD5.out k hk)
  clear hI5 hcs hob HKS HWD HDF HS0 CEL FRZ zc zf HI5
  generalize w5.setCell ⟨b, 4, none⟩ (.slice a5 (keptL h h.sleeping).length c5) = w6 at *
  go_wp2_with fail
  go_ret
  exact ⟨_, _, rfl, HFI.out, HCH.out, fun k x => x.elim .inl (fun y => .inr (y.elim .inl (fun z => .inr (HOL.out k z)))), HVO.out, HNW.out⟩
set_option maxHeartbeats 6400000 in
set_option maxRecDepth 100000 in
theorem sleep_any (w0 : Past) (w : World) (b : Nat) (h : Hist) (vl vs : Value) (rs : List EntR) (H : HiAt w0 w b h vl vs rs) (p : Int) (hn : h.sleeping.length < 1000) :
    Calls Tryd.prog 41 #[.pointer (some ⟨b, 0, none⟩), .int .i64 p] w fun z w' => z = .returned (.tuple #[]) ∧ OpX w0 w b (Mut b vl vs) (sleepM h p) w' := by
  have HH := Lib.hid H
  have HN := Lib.hid hn
  have d0 := cell_of_block (i := 4) H.box rfl
  simp only [List.getElem_toArray, List.getElem_cons_zero, List.getElem_cons_succ] at d0
  have FR : Hid (∀ W1, Chg (fun k => vs.ownBlock = some k) (w.alloc (.cells #[.int .i64 p] 3)) W1 → (∃ u, W1.cell? ⟨b, 4, none⟩ = some u) ∧ W1.frozen? ⟨b, 4, none⟩ = false) := Lib.hid (fun W1 hc => by
    have hb := hc.keep ((Chg.alloc (fun _ => False) w _).keep HH.out.box (fun x => x)) HH.out.sb
    exact ⟨⟨_, cell_of_block (i := 4) hb rfl⟩, frozen_of_block hb⟩)
  obtain ⟨ao, co, rfl, -, -⟩ := H.slp.slice
  clear H hn
  go_enter Tryd.func41, Tryd.ntmps41
  go_upto_region 1 with (at_builtin; refine wpList_outR rfl (.tmp 8) (.tmp 10) rfl _ h.sleeping rfl (HH.out.slp.alloc _) _ [p] rfl (RowAt.lit [.int .i64 p] rfl (by simp [maxLen])) (⟨by have := HN.out; simp only [List.length_cons, List.length_nil]; omega⟩ : Few _) ?_; intro a2 n2 c2 w2 hrow2 hchg2 hold2; obtain ⟨⟨u2, hu2⟩, hf2⟩ := FR.out w2 hchg2)
  have hx : Chg (fun k => (Value.slice ao h.sleeping.length co).ownBlock = some k) w w2 := (Chg.alloc (fun _ => False) w _).trans hchg2 (fun _ _ x => x.elim) (fun _ _ x => x)
  have hh3 := HH.out.resleep hx (h.sleeping ++ [p]) hrow2 (by rw [List.length_append]; simp only [List.length_cons, List.length_nil]; have := HN.out; omega) (fun k hk => by
    rcases hold2 k hk with x | x
    · exact .inl x
    · exact .inr (by rw [World.size_alloc] at x; omega))
  have HCS := Lib.hid (hx.trans (Chg.setCell w2 ⟨b, 4, none⟩ (.slice a2 n2 c2)) (fun k _ x => (.inr (.inr x) : Mut b vl (Value.slice ao h.sleeping.length co) k)) (fun k _ x => .inl x))
  have HOL := Lib.hid (fun k (hk : (Value.slice a2 n2 c2).ownBlock = some k) => (hold2 k hk : (Value.slice ao h.sleeping.length co).ownBlock = some k ∨ _ ≤ k))
  have HH3 := Lib.hid hh3
  have c0 := cell_of_block (i := 4) hh3.box rfl
  simp only [List.getElem_toArray, List.getElem_cons_zero, List.getElem_cons_succ] at c0
  have HSO := Lib.hid (sortRow _ _ (h.sleeping ++ [p]) hh3.slp ⟨by rw [List.length_append]; simp only [List.length_cons, List.length_nil]; have := HN.out; omega⟩)
  have HSB := Lib.hid hh3.sb
  clear hh3 hx hrow2 hchg2 hold2 hu2 hf2 FR d0
  generalize w2.setCell ⟨b, 4, none⟩ (.slice a2 n2 c2) = w3 at *
  go_wp2_with (go_at_call 46; refine HSO.out.mono ?_; rintro _ w4 ⟨rfl, hrow4, hch4⟩)
  go_end0
  refine ⟨rfl, _, _, _, (HH3.out.slept hch4 (sorted (h.sleeping ++ [p])) hrow4 (by rw [sorted_length, List.length_append]; simp only [List.length_cons, List.length_nil]; have := HN.out; omega)), HCS.out.trans hch4 (fun _ _ x => x) (fun k hk x => ?_), fun k hk x => ?_⟩
  · rcases HOL.out k x with y | y
    · exact .inr (.inr y)
    · rw [World.size_alloc] at y; omega
  · rcases x with x | x | x
    · exact .inl x
    · exact .inr (.inl x)
    · rcases HOL.out k x with y | y
      · exact .inr (.inr y)
      · rw [World.size_alloc] at y; omega
end Go.Proofs.YtiecgbmeobpomaaDoor
namespace Go.Proofs.YtiecgbmeobpomaaDoor
open Go.RowKit
set_option linter.unusedVariables false
set_option linter.unusedSimpArgs false

/-- Twelve cells of a block stored one after the other. -/
theorem store12 {w : World} {g T : Nat} {u0 u1 u2 u3 u4 u5 u6 u7 u8 u9 u10 u11 : Value} (b0 : w.heap[g]? = some (.cells #[u0, u1, u2, u3, u4, u5, u6, u7, u8, u9, u10, u11] T (0, 0))) (v0 v1 v2 v3 v4 v5 v6 v7 v8 v9 v10 v11 : Value) :
    w.cell? ⟨g, 0, none⟩ = some u0 ∧ w.frozen? ⟨g, 0, none⟩ = false ∧
    (w.setCell ⟨g, 0, none⟩ v0).cell? ⟨g, 1, none⟩ = some u1 ∧ (w.setCell ⟨g, 0, none⟩ v0).frozen? ⟨g, 1, none⟩ = false ∧
    ((w.setCell ⟨g, 0, none⟩ v0).setCell ⟨g, 1, none⟩ v1).cell? ⟨g, 2, none⟩ = some u2 ∧ ((w.setCell ⟨g, 0, none⟩ v0).setCell ⟨g, 1, none⟩ v1).frozen? ⟨g, 2, none⟩ = false ∧
    (((w.setCell ⟨g, 0, none⟩ v0).setCell ⟨g, 1, none⟩ v1).setCell ⟨g, 2, none⟩ v2).cell? ⟨g, 3, none⟩ = some u3 ∧ (((w.setCell ⟨g, 0, none⟩ v0).setCell ⟨g, 1, none⟩ v1).setCell ⟨g, 2, none⟩ v2).frozen? ⟨g, 3, none⟩ = false ∧
    ((((w.setCell ⟨g, 0, none⟩ v0).setCell ⟨g, 1, none⟩ v1).setCell ⟨g, 2, none⟩ v2).setCell ⟨g, 3, none⟩ v3).cell? ⟨g, 4, none⟩ = some u4 ∧ ((((w.setCell ⟨g, 0, none⟩ v0).setCell ⟨g, 1, none⟩ v1).setCell ⟨g, 2, none⟩ v2).setCell ⟨g, 3, none⟩ v3).frozen? ⟨g, 4, none⟩ = false ∧
    (((((w.setCell ⟨g, 0, none⟩ v0).setCell ⟨g, 1, none⟩ v1).setCell ⟨g, 2, none⟩ v2).setCell ⟨g, 3, none⟩ v3).setCell ⟨g, 4, none⟩ v4).cell? ⟨g, 5, none⟩ = some u5 ∧ (((((w.setCell ⟨g, 0, none⟩ v0).setCell ⟨g, 1, none⟩ v1).setCell ⟨g, 2, none⟩ v2).setCell ⟨g, 3, none⟩ v3).setCell ⟨g, 4, none⟩ v4).frozen? ⟨g, 5, none⟩ = false ∧
    ((((((w.setCell ⟨g, 0, none⟩ v0).setCell ⟨g, 1, none⟩ v1).setCell ⟨g, 2, none⟩ v2).setCell ⟨g, 3, none⟩ v3).setCell ⟨g, 4, none⟩ v4).setCell ⟨g, 5, none⟩ v5).cell? ⟨g, 6, none⟩ = some u6 ∧ ((((((w.setCell ⟨g, 0, none⟩ v0).setCell ⟨g, 1, none⟩ v1).setCell ⟨g, 2, none⟩ v2).setCell ⟨g, 3, none⟩ v3).setCell ⟨g, 4, none⟩ v4).setCell ⟨g, 5, none⟩ v5).frozen? ⟨g, 6, none⟩ = false ∧
    (((((((w.setCell ⟨g, 0, none⟩ v0).setCell ⟨g, 1, none⟩ v1).setCell ⟨g, 2, none⟩ v2).setCell ⟨g, 3, none⟩ v3).setCell ⟨g, 4, none⟩ v4).setCell ⟨g, 5, none⟩ v5).setCell ⟨g, 6, none⟩ v6).cell? ⟨g, 7, none⟩ = some u7 ∧ (((((((w.setCell ⟨g, 0, none⟩ v0).setCell ⟨g, 1, none⟩ v1).setCell ⟨g, 2, none⟩ v2).setCell ⟨g, 3, none⟩ v3).setCell ⟨g, 4, none⟩ v4).setCell ⟨g, 5, none⟩ v5).setCell ⟨g, 6, none⟩ v6).frozen? ⟨g, 7, none⟩ = false ∧
    ((((((((w.setCell ⟨g, 0, none⟩ v0).setCell ⟨g, 1, none⟩ v1).setCell ⟨g, 2, none⟩ v2).setCell ⟨g, 3, none⟩ v3).setCell ⟨g, 4, none⟩ v4).setCell ⟨g, 5, none⟩ v5).setCell ⟨g, 6, none⟩ v6).setCell ⟨g, 7, none⟩ v7).cell? ⟨g, 8, none⟩ = some u8 ∧ ((((((((w.setCell ⟨g, 0, none⟩ v0).setCell ⟨g, 1, none⟩ v1).setCell ⟨g, 2, none⟩ v2).setCell ⟨g, 3, none⟩ v3).setCell ⟨g, 4, none⟩ v4).setCell ⟨g, 5, none⟩ v5).setCell ⟨g, 6, none⟩ v6).setCell ⟨g, 7, none⟩ v7).frozen? ⟨g, 8, none⟩ = false ∧
    (((((((((w.setCell ⟨g, 0, none⟩ v0).setCell ⟨g, 1, none⟩ v1).setCell ⟨g, 2, none⟩ v2).setCell ⟨g, 3, none⟩ v3).setCell ⟨g, 4, none⟩ v4).setCell ⟨g, 5, none⟩ v5).setCell ⟨g, 6, none⟩ v6).setCell ⟨g, 7, none⟩ v7).setCell ⟨g, 8, none⟩ v8).cell? ⟨g, 9, none⟩ = some u9 ∧ (((((((((w.setCell ⟨g, 0, none⟩ v0).setCell ⟨g, 1, none⟩ v1).setCell ⟨g, 2, none⟩ v2).setCell ⟨g, 3, none⟩ v3).setCell ⟨g, 4, none⟩ v4).setCell ⟨g, 5, none⟩ v5).setCell ⟨g, 6, none⟩ v6).setCell ⟨g, 7, none⟩ v7).setCell ⟨g, 8, none⟩ v8).frozen? ⟨g, 9, none⟩ = false ∧
    ((((((((((w.setCell ⟨g, 0, none⟩ v0).setCell ⟨g, 1, none⟩ v1).setCell ⟨g, 2, none⟩ v2).setCell ⟨g, 3, none⟩ v3).setCell ⟨g, 4, none⟩ v4).setCell ⟨g, 5, none⟩ v5).setCell ⟨g, 6, none⟩ v6).setCell ⟨g, 7, none⟩ v7).setCell ⟨g, 8, none⟩ v8).setCell ⟨g, 9, none⟩ v9).cell? ⟨g, 10, none⟩ = some u10 ∧ ((((((((((w.setCell ⟨g, 0, none⟩ v0).setCell ⟨g, 1, none⟩ v1).setCell ⟨g, 2, none⟩ v2).setCell ⟨g, 3, none⟩ v3).setCell ⟨g, 4, none⟩ v4).setCell ⟨g, 5, none⟩ v5).setCell ⟨g, 6, none⟩ v6).setCell ⟨g, 7, none⟩ v7).setCell ⟨g, 8, none⟩ v8).setCell ⟨g, 9, none⟩ v9).frozen? ⟨g, 10, none⟩ = false ∧
    (((((((((((w.setCell ⟨g, 0, none⟩ v0).setCell ⟨g, 1, none⟩ v1).setCell ⟨g, 2, none⟩ v2).setCell ⟨g, 3, none⟩ v3).setCell ⟨g, 4, none⟩ v4).setCell ⟨g, 5, none⟩ v5).setCell ⟨g, 6, none⟩ v6).setCell ⟨g, 7, none⟩ v7).setCell ⟨g, 8, none⟩ v8).setCell ⟨g, 9, none⟩ v9).setCell ⟨g, 10, none⟩ v10).cell? ⟨g, 11, none⟩ = some u11 ∧ (((((((((((w.setCell ⟨g, 0, none⟩ v0).setCell ⟨g, 1, none⟩ v1).setCell ⟨g, 2, none⟩ v2).setCell ⟨g, 3, none⟩ v3).setCell ⟨g, 4, none⟩ v4).setCell ⟨g, 5, none⟩ v5).setCell ⟨g, 6, none⟩ v6).setCell ⟨g, 7, none⟩ v7).setCell ⟨g, 8, none⟩ v8).setCell ⟨g, 9, none⟩ v9).setCell ⟨g, 10, none⟩ v10).frozen? ⟨g, 11, none⟩ = false ∧
    ((((((((((((w.setCell ⟨g, 0, none⟩ v0).setCell ⟨g, 1, none⟩ v1).setCell ⟨g, 2, none⟩ v2).setCell ⟨g, 3, none⟩ v3).setCell ⟨g, 4, none⟩ v4).setCell ⟨g, 5, none⟩ v5).setCell ⟨g, 6, none⟩ v6).setCell ⟨g, 7, none⟩ v7).setCell ⟨g, 8, none⟩ v8).setCell ⟨g, 9, none⟩ v9).setCell ⟨g, 10, none⟩ v10).setCell ⟨g, 11, none⟩ v11).heap[g]? = some (.cells #[v0, v1, v2, v3, v4, v5, v6, v7, v8, v9, v10, v11] T (0, 0)) ∧ Chg (fun k => k = g) w ((((((((((((w.setCell ⟨g, 0, none⟩ v0).setCell ⟨g, 1, none⟩ v1).setCell ⟨g, 2, none⟩ v2).setCell ⟨g, 3, none⟩ v3).setCell ⟨g, 4, none⟩ v4).setCell ⟨g, 5, none⟩ v5).setCell ⟨g, 6, none⟩ v6).setCell ⟨g, 7, none⟩ v7).setCell ⟨g, 8, none⟩ v8).setCell ⟨g, 9, none⟩ v9).setCell ⟨g, 10, none⟩ v10).setCell ⟨g, 11, none⟩ v11) := by
  have b1 : (w.setCell ⟨g, 0, none⟩ v0).heap[g]? = some (.cells #[v0, u1, u2, u3, u4, u5, u6, u7, u8, u9, u10, u11] T (0, 0)) := setCell_block (i := 0) v0 b0
  have b2 : ((w.setCell ⟨g, 0, none⟩ v0).setCell ⟨g, 1, none⟩ v1).heap[g]? = some (.cells #[v0, v1, u2, u3, u4, u5, u6, u7, u8, u9, u10, u11] T (0, 0)) := setCell_block (i := 1) v1 b1
  have b3 : (((w.setCell ⟨g, 0, none⟩ v0).setCell ⟨g, 1, none⟩ v1).setCell ⟨g, 2, none⟩ v2).heap[g]? = some (.cells #[v0, v1, v2, u3, u4, u5, u6, u7, u8, u9, u10, u11] T (0, 0)) := setCell_block (i := 2) v2 b2
  have b4 : ((((w.setCell ⟨g, 0, none⟩ v0).setCell ⟨g, 1, none⟩ v1).setCell ⟨g, 2, none⟩ v2).setCell ⟨g, 3, none⟩ v3).heap[g]? = some (.cells #[v0, v1, v2, v3, u4, u5, u6, u7, u8, u9, u10, u11] T (0, 0)) := setCell_block (i := 3) v3 b3
  have b5 : (((((w.setCell ⟨g, 0, none⟩ v0).setCell ⟨g, 1, none⟩ v1).setCell ⟨g, 2, none⟩ v2).setCell ⟨g, 3, none⟩ v3).setCell ⟨g, 4, none⟩ v4).heap[g]? = some (.cells #[v0, v1, v2, v3, v4, u5, u6, u7, u8, u9, u10, u11] T (0, 0)) := setCell_block (i := 4) v4 b4
  have b6 : ((((((w.setCell ⟨g, 0, none⟩ v0).setCell ⟨g, 1, none⟩ v1).setCell ⟨g, 2, none⟩ v2).setCell ⟨g, 3, none⟩ v3).setCell ⟨g, 4, none⟩ v4).setCell ⟨g, 5, none⟩ v5).heap[g]? = some (.cells #[v0, v1, v2, v3, v4, v5, u6, u7, u8, u9, u10, u11] T (0, 0)) := setCell_block (i := 5) v5 b5
  have b7 : (((((((w.setCell ⟨g, 0, none⟩ v0).setCell ⟨g, 1, none⟩ v1).setCell ⟨g, 2, none⟩ v2).setCell ⟨g, 3, none⟩ v3).setCell ⟨g, 4, none⟩ v4).setCell ⟨g, 5, none⟩ v5).setCell ⟨g, 6, none⟩ v6).heap[g]? = some (.cells #[v0, v1, v2, v3, v4, v5, v6, u7, u8, u9, u10, u11] T (0, 0)) := setCell_block (i := 6) v6 b6
  have b8 : ((((((((w.setCell ⟨g, 0, none⟩ v0).setCell ⟨g, 1, none⟩ v1).setCell ⟨g, 2, none⟩ v2).setCell ⟨g, 3, none⟩ v3).setCell ⟨g, 4, none⟩ v4).setCell ⟨g, 5, none⟩ v5).setCell ⟨g, 6, none⟩ v6).setCell ⟨g, 7, none⟩ v7).heap[g]? = some (.cells #[v0, v1, v2, v3, v4, v5, v6, v7, u8, u9, u10, u11] T (0, 0)) := setCell_block (i := 7) v7 b7
  have b9 : (((((((((w.setCell ⟨g, 0, none⟩ v0).setCell ⟨g, 1, none⟩ v1).setCell ⟨g, 2, none⟩ v2).setCell ⟨g, 3, none⟩ v3).setCell ⟨g, 4, none⟩ v4).setCell ⟨g, 5, none⟩ v5).setCell ⟨g, 6, none⟩ v6).setCell ⟨g, 7, none⟩ v7).setCell ⟨g, 8, none⟩ v8).heap[g]? = some (.cells #[v0, v1, v2, v3, v4, v5, v6, v7, v8, u9, u10, u11] T (0, 0)) := setCell_block (i := 8) v8 b8
  have b10 : ((((((((((w.setCell ⟨g, 0, none⟩ v0).setCell ⟨g, 1, none⟩ v1).setCell ⟨g, 2, none⟩ v2).setCell ⟨g, 3, none⟩ v3).setCell ⟨g, 4, none⟩ v4).setCell ⟨g, 5, none⟩ v5).setCell ⟨g, 6, none⟩ v6).setCell ⟨g, 7, none⟩ v7).setCell ⟨g, 8, none⟩ v8).setCell ⟨g, 9, none⟩ v9).heap[g]? = some (.cells #[v0, v1, v2, v3, v4, v5, v6, v7, v8, v9, u10, u11] T (0, 0)) := setCell_block (i := 9) v9 b9
  have b11 : (((((((((((w.setCell ⟨g, 0, none⟩ v0).setCell ⟨g, 1, none⟩ v1).setCell ⟨g, 2, none⟩ v2).setCell ⟨g, 3, none⟩ v3).setCell ⟨g, 4, none⟩ v4).setCell ⟨g, 5, none⟩ v5).setCell ⟨g, 6, none⟩ v6).setCell ⟨g, 7, none⟩ v7).setCell ⟨g, 8, none⟩ v8).setCell ⟨g, 9, none⟩ v9).setCell ⟨g, 10, none⟩ v10).heap[g]? = some (.cells #[v0, v1, v2, v3, v4, v5, v6, v7, v8, v9, v10, u11] T (0, 0)) := setCell_block (i := 10) v10 b10
  have b12 : ((((((((((((w.setCell ⟨g, 0, none⟩ v0).setCell ⟨g, 1, none⟩ v1).setCell ⟨g, 2, none⟩ v2).setCell ⟨g, 3, none⟩ v3).setCell ⟨g, 4, none⟩ v4).setCell ⟨g, 5, none⟩ v5).setCell ⟨g, 6, none⟩ v6).setCell ⟨g, 7, none⟩ v7).setCell ⟨g, 8, none⟩ v8).setCell ⟨g, 9, none⟩ v9).setCell ⟨g, 10, none⟩ v10).setCell ⟨g, 11, none⟩ v11).heap[g]? = some (.cells #[v0, v1, v2, v3, v4, v5, v6, v7, v8, v9, v10, v11] T (0, 0)) := setCell_block (i := 11) v11 b11
  exact ⟨cell_of_block b0 rfl, frozen_of_block b0, cell_of_block b1 rfl, frozen_of_block b1, cell_of_block b2 rfl, frozen_of_block b2, cell_of_block b3 rfl, frozen_of_block b3, cell_of_block b4 rfl, frozen_of_block b4, cell_of_block b5 rfl, frozen_of_block b5, cell_of_block b6 rfl, frozen_of_block b6, cell_of_block b7 rfl, frozen_of_block b7, cell_of_block b8 rfl, frozen_of_block b8, cell_of_block b9 rfl, frozen_of_block b9, cell_of_block b10 rfl, frozen_of_block b10, cell_of_block b11 rfl, frozen_of_block b11, b12, chg_put4 (chg_put4 (chg_put4 (chg_put4 (chg_put4 (chg_put4 (chg_put4 (chg_put4 (chg_put4 (chg_put4 (chg_put4 (chg_put4 (Chg.refl _ _))))))))))))⟩
theorem store12n (w : World) (g T : Nat) (hg : w.heap.size = g) (u0 u1 u2 u3 u4 u5 u6 u7 u8 u9 u10 u11 v0 v1 v2 v3 v4 v5 v6 v7 v8 v9 v10 v11 : Value) :
    (w.alloc (.cells #[u0, u1, u2, u3, u4, u5, u6, u7, u8, u9, u10, u11] T)).cell? ⟨g, 0, none⟩ = some u0 ∧ (w.alloc (.cells #[u0, u1, u2, u3, u4, u5, u6, u7, u8, u9, u10, u11] T)).frozen? ⟨g, 0, none⟩ = false ∧
    ((w.alloc (.cells #[u0, u1, u2, u3, u4, u5, u6, u7, u8, u9, u10, u11] T)).setCell ⟨g, 0, none⟩ v0).cell? ⟨g, 1, none⟩ = some u1 ∧ ((w.alloc (.cells #[u0, u1, u2, u3, u4, u5, u6, u7, u8, u9, u10, u11] T)).setCell ⟨g, 0, none⟩ v0).frozen? ⟨g, 1, none⟩ = false ∧
    (((w.alloc (.cells #[u0, u1, u2, u3, u4, u5, u6, u7, u8, u9, u10, u11] T)).setCell ⟨g, 0, none⟩ v0).setCell ⟨g, 1, none⟩ v1).cell? ⟨g, 2, none⟩ = some u2 ∧ (((w.alloc (.cells #[u0, u1, u2, u3, u4, u5, u6, u7, u8, u9, u10, u11] T)).setCell ⟨g, 0, none⟩ v0).setCell ⟨g, 1, none⟩ v1).frozen? ⟨g, 2, none⟩ = false ∧
    ((((w.alloc (.cells #[u0, u1, u2, u3, u4, u5, u6, u7, u8, u9, u10, u11] T)).setCell ⟨g, 0, none⟩ v0).setCell ⟨g, 1, none⟩ v1).setCell ⟨g, 2, none⟩ v2).cell? ⟨g, 3, none⟩ = some u3 ∧ ((((w.alloc (.cells #[u0, u1, u2, u3, u4, u5, u6, u7, u8, u9, u10, u11] T)).setCell ⟨g, 0, none⟩ v0).setCell ⟨g, 1, none⟩ v1).setCell ⟨g, 2, none⟩ v2).frozen? ⟨g, 3, none⟩ = false ∧
    (((((w.alloc (.cells #[u0, u1, u2, u3, u4, u5, u6, u7, u8, u9, u10, u11] T)).setCell ⟨g, 0, none⟩ v0).setCell ⟨g, 1, none⟩ v1).setCell ⟨g, 2, none⟩ v2).setCell ⟨g, 3, none⟩ v3).cell? ⟨g, 4, none⟩ = some u4 ∧ (((((w.alloc (.cells #[u0, u1, u2, u3, u4, u5, u6, u7, u8, u9, u10, u11] T)).setCell ⟨g, 0, none⟩ v0).setCell ⟨g, 1, none⟩ v1).setCell ⟨g, 2, none⟩ v2).setCell ⟨g, 3, none⟩ v3).frozen? ⟨g, 4, none⟩ = false ∧
    ((((((w.alloc (.cells #[u0, u1, u2, u3, u4, u5, u6, u7, u8, u9, u10, u11] T)).setCell ⟨g, 0, none⟩ v0).setCell ⟨g, 1, none⟩ v1).setCell ⟨g, 2, none⟩ v2).setCell ⟨g, 3, none⟩ v3).setCell ⟨g, 4, none⟩ v4).cell? ⟨g, 5, none⟩ = some u5 ∧ ((((((w.alloc (.cells #[u0, u1, u2, u3, u4, u5, u6, u7, u8, u9, u10, u11] T)).setCell ⟨g, 0, none⟩ v0).setCell ⟨g, 1, none⟩ v1).setCell ⟨g, 2, none⟩ v2).setCell ⟨g, 3, none⟩ v3).setCell ⟨g, 4, none⟩ v4).frozen? ⟨g, 5, none⟩ = false ∧
    (((((((w.alloc (.cells #[u0, u1, u2, u3, u4, u5, u6, u7, u8, u9, u10, u11] T)).setCell ⟨g, 0, none⟩ v0).setCell ⟨g, 1, none⟩ v1).setCell ⟨g, 2, none⟩ v2).setCell ⟨g, 3, none⟩ v3).setCell ⟨g, 4, none⟩ v4).setCell ⟨g, 5, none⟩ v5).cell? ⟨g, 6, none⟩ = some u6 ∧ (((((((w.alloc (.cells #[u0, u1, u2, u3, u4, u5, u6, u7, u8, u9, u10, u11] T)).setCell ⟨g, 0, none⟩ v0).setCell ⟨g, 1, none⟩ v1).setCell ⟨g, 2, none⟩ v2).setCell ⟨g, 3, none⟩ v3).setCell ⟨g, 4, none⟩ v4).setCell ⟨g, 5, none⟩ v5).frozen? ⟨g, 6, none⟩ = false ∧
    ((((((((w.alloc (.cells #[u0, u1, u2, u3, u4, u5, u6, u7, u8, u9, u10, u11] T)).setCell ⟨g, 0, none⟩ v0).setCell ⟨g, 1, none⟩ v1).setCell ⟨g, 2, none⟩ v2).setCell ⟨g, 3, none⟩ v3).setCell ⟨g, 4, none⟩ v4).setCell ⟨g, 5, none⟩ v5).setCell ⟨g, 6, none⟩ v6).cell? ⟨g, 7, none⟩ = some u7 ∧ ((((((((w.alloc (.cells #[u0, u1, u2, u3, u4, u5, u6, u7, u8, u9, u10, u11] T)).setCell ⟨g, 0, none⟩ v0).setCell ⟨g, 1, none⟩ v1).setCell ⟨g, 2, none⟩ v2).setCell ⟨g, 3, none⟩ v3).setCell ⟨g, 4, none⟩ v4).setCell ⟨g, 5, none⟩ v5).setCell ⟨g, 6, none⟩ v6).frozen? ⟨g, 7, none⟩ = false ∧
    (((((((((w.alloc (.cells #[u0, u1, u2, u3, u4, u5, u6, u7, u8, u9, u10, u11] T)).setCell ⟨g, 0, none⟩ v0).setCell ⟨g, 1, none⟩ v1).setCell ⟨g, 2, none⟩ v2).setCell ⟨g, 3, none⟩ v3).setCell ⟨g, 4, none⟩ v4).setCell ⟨g, 5, none⟩ v5).setCell ⟨g, 6, none⟩ v6).setCell ⟨g, 7, none⟩ v7).cell? ⟨g, 8, none⟩ = some u8 ∧ (((((((((w.alloc (.cells #[u0, u1, u2, u3, u4, u5, u6, u7, u8, u9, u10, u11] T)).setCell ⟨g, 0, none⟩ v0).setCell ⟨g, 1, none⟩ v1).setCell ⟨g, 2, none⟩ v2).setCell ⟨g, 3, none⟩ v3).setCell ⟨g, 4, none⟩ v4).setCell ⟨g, 5, none⟩ v5).setCell ⟨g, 6, none⟩ v6).setCell ⟨g, 7, none⟩ v7).frozen? ⟨g, 8, none⟩ = false ∧
    ((((((((((w.alloc (.cells #[u0, u1, u2, u3, u4, u5, u6, u7, u8, u9, u10, u11] T)).setCell ⟨g, 0, none⟩ v0).setCell ⟨g, 1, none⟩ v1).setCell ⟨g, 2, none⟩ v2).setCell ⟨g, 3, none⟩ v3).setCell ⟨g, 4, none⟩ v4).setCell ⟨g, 5, none⟩ v5).setCell ⟨g, 6, none⟩ v6).setCell ⟨g, 7, none⟩ v7).setCell ⟨g, 8, none⟩ v8).cell? ⟨g, 9, none⟩ = some u9 ∧ ((((((((((w.alloc (.cells #[u0, u1, u2, u3, u4, u5, u6, u7, u8, u9, u10, u11] T)).setCell ⟨g, 0, none⟩ v0).setCell ⟨g, 1, none⟩ v1).setCell ⟨g, 2, none⟩ v2).setCell ⟨g, 3, none⟩ v3).setCell ⟨g, 4, none⟩ v4).setCell ⟨g, 5, none⟩ v5).setCell ⟨g, 6, none⟩ v6).setCell ⟨g, 7, none⟩ v7).setCell ⟨g, 8, none⟩ v8).frozen? ⟨g, 9, none⟩ = false ∧
    (((((((((((w.alloc (.cells #[u0, u1, u2, u3, u4, u5, u6, u7, u8, u9, u10, u11] T)).setCell ⟨g, 0, none⟩ v0).setCell ⟨g, 1, none⟩ v1).setCell ⟨g, 2, none⟩ v2).setCell ⟨g, 3, none⟩ v3).setCell ⟨g, 4, none⟩ v4).setCell ⟨g, 5, none⟩ v5).setCell ⟨g, 6, none⟩ v6).setCell ⟨g, 7, none⟩ v7).setCell ⟨g, 8, none⟩ v8).setCell ⟨g, 9, none⟩ v9).cell? ⟨g, 10, none⟩ = some u10 ∧ (((((((((((w.alloc (.cells #[u0, u1, u2, u3, u4, u5, u6, u7, u8, u9, u10, u11] T)).setCell ⟨g, 0, none⟩ v0).setCell ⟨g, 1, none⟩ v1).setCell ⟨g, 2, none⟩ v2).setCell ⟨g, 3, none⟩ v3).setCell ⟨g, 4, none⟩ v4).setCell ⟨g, 5, none⟩ v5).setCell ⟨g, 6, none⟩ v6).setCell ⟨g, 7, none⟩ v7).setCell ⟨g, 8, none⟩ v8).setCell ⟨g, 9, none⟩ v9).frozen? ⟨g, 10, none⟩ = false ∧
    ((((((((((((w.alloc (.cells #[u0, u1, u2, u3, u4, u5, u6, u7, u8, u9, u10, u11] T)).setCell ⟨g, 0, none⟩ v0).setCell ⟨g, 1, none⟩ v1).setCell ⟨g, 2, none⟩ v2).setCell ⟨g, 3, none⟩ v3).setCell ⟨g, 4, none⟩ v4).setCell ⟨g, 5, none⟩ v5).setCell ⟨g, 6, none⟩ v6).setCell ⟨g, 7, none⟩ v7).setCell ⟨g, 8, none⟩ v8).setCell ⟨g, 9, none⟩ v9).setCell ⟨g, 10, none⟩ v10).cell? ⟨g, 11, none⟩ = some u11 ∧ ((((((((((((w.alloc (.cells #[u0, u1, u2, u3, u4, u5, u6, u7, u8, u9, u10, u11] T)).setCell ⟨g, 0, none⟩ v0).setCell ⟨g, 1, none⟩ v1).setCell ⟨g, 2, none⟩ v2).setCell ⟨g, 3, none⟩ v3).setCell ⟨g, 4, none⟩ v4).setCell ⟨g, 5, none⟩ v5).setCell ⟨g, 6, none⟩ v6).setCell ⟨g, 7, none⟩ v7).setCell ⟨g, 8, none⟩ v8).setCell ⟨g, 9, none⟩ v9).setCell ⟨g, 10, none⟩ v10).frozen? ⟨g, 11, none⟩ = false ∧
    (((((((((((((w.alloc (.cells #[u0, u1, u2, u3, u4, u5, u6, u7, u8, u9, u10, u11] T)).setCell ⟨g, 0, none⟩ v0).setCell ⟨g, 1, none⟩ v1).setCell ⟨g, 2, none⟩ v2).setCell ⟨g, 3, none⟩ v3).setCell ⟨g, 4, none⟩ v4).setCell ⟨g, 5, none⟩ v5).setCell ⟨g, 6, none⟩ v6).setCell ⟨g, 7, none⟩ v7).setCell ⟨g, 8, none⟩ v8).setCell ⟨g, 9, none⟩ v9).setCell ⟨g, 10, none⟩ v10).setCell ⟨g, 11, none⟩ v11).heap[g]? = some (.cells #[v0, v1, v2, v3, v4, v5, v6, v7, v8, v9, v10, v11] T (0, 0)) ∧ Chg (fun _ => False) w (((((((((((((w.alloc (.cells #[u0, u1, u2, u3, u4, u5, u6, u7, u8, u9, u10, u11] T)).setCell ⟨g, 0, none⟩ v0).setCell ⟨g, 1, none⟩ v1).setCell ⟨g, 2, none⟩ v2).setCell ⟨g, 3, none⟩ v3).setCell ⟨g, 4, none⟩ v4).setCell ⟨g, 5, none⟩ v5).setCell ⟨g, 6, none⟩ v6).setCell ⟨g, 7, none⟩ v7).setCell ⟨g, 8, none⟩ v8).setCell ⟨g, 9, none⟩ v9).setCell ⟨g, 10, none⟩ v10).setCell ⟨g, 11, none⟩ v11) := by
  subst hg
  have h0 := alloc_block w (.cells #[u0, u1, u2, u3, u4, u5, u6, u7, u8, u9, u10, u11] T)
  obtain ⟨z0, q0, z1, q1, z2, q2, z3, q3, z4, q4, z5, q5, z6, q6, z7, q7, z8, q8, z9, q9, z10, q10, z11, q11, hb, hc⟩ := store12 h0 v0 v1 v2 v3 v4 v5 v6 v7 v8 v9 v10 v11
  exact ⟨z0, q0, z1, q1, z2, q2, z3, q3, z4, q4, z5, q5, z6, q6, z7, q7, z8, q8, z9, q9, z10, q10, z11, q11, hb, (Chg.alloc (fun _ => False) w _).trans hc (fun _ _ x => x) (fun k hk e => by have : k = w.heap.size := e; omega)⟩
/-- The cells of a move. -/
def MvC (e : Ent) (vn vp : Value) (pg : Int) (aw sl : Bool) (vc : Value) : Array Value := #[.int .i64 e.id, .int .i64 e.page, .string e.url, .string e.title, vn, vp, .int .i64 e.x, .int .i64 e.y, .int .i64 pg, .bool aw, .bool sl, vc]
/-- A move: its memory is none of D's. -/
def MvAt (D : Nat → Prop) (w : World) (z : Value) (m : Mv) : Prop :=
  ∃ vn vp vc, z = .agg (MvC m.entry vn vp m.page m.awake m.sleeps vc) ∧ MsgAt D w vn vp m.entry.msg ∧ RowAt w 3 1 vc m.closed.length (intC m.closed) ∧ ∀ k, vc.ownBlock = some k → ¬ D k
theorem MvAt.chg {D D' S : Nat → Prop} {w w' : World} {z : Value} {m : Mv} (h : MvAt D w z m) (hc : Chg S w w') (hS : ∀ k, k < w.heap.size → S k → D k) (hD : ∀ k, k < w.heap.size → D' k → D k) : MvAt D' w' z m := by
  obtain ⟨vn, vp, vc, rfl, h1, h2, h3⟩ := h
  have hlt := h2.lt
  exact ⟨vn, vp, vc, rfl, h1.chg hc hS hD, h2.chg hc (fun k hk x => h3 k hk (hS k (hlt k hk) x)), fun k hk x => h3 k hk (hD k (hlt k hk) x)⟩
theorem SeenN.none (D : Nat → Prop) (w : World) (size : Nat) : SeenN D w size (.slice none 0 0) 0 [] :=
  ⟨_, _, rfl, Nat.le_refl _, by simp, by simp, fun _ => rfl, fun h => by omega⟩
theorem MsgAt.none (D : Nat → Prop) (w : World) : MsgAt D w (.slice none 0 0) (.slice none 0 0) Msg0 :=
  ⟨⟨[], rfl, (fun i a => by cases a), SeenN.none _ _ _⟩, SeenN.none _ _ _⟩
theorem MvAt.zero (D : Nat → Prop) (w : World) : MvAt D w (.agg #[.int .i64 0, .int .i64 0, .string ⟨#[]⟩, .string ⟨#[]⟩, .slice none 0 0, .slice none 0 0, .int .i64 0, .int .i64 0, .int .i64 0, .bool false, .bool false, .slice none 0 0]) Mv0 :=
  ⟨_, _, _, rfl, MsgAt.none _ _, RowAt.nil _ _ _, fun k hk => by simp [Value.ownBlock] at hk⟩
/-- A history and the move z behind an operation. -/
def OpV (w0 : Past) (w : World) (b : Nat) (M : Nat → Prop) (h : Hist) (m : Mv) (z : Value) (w' : World) : Prop := ∃ vl vs rs, HiAt w0 w' b h vl vs rs ∧ Chg M w w' ∧ (∀ k, k < w.heap.size → Mut b vl vs k → M k) ∧ MvAt (fun k => k < w.heap.size ∨ Mut b vl vs k) w' z m
theorem OpV.opx {w0 : Past} {w : World} {b : Nat} {M : Nat → Prop} {h : Hist} {m : Mv} {z : Value} {w' : World} (X : OpV w0 w b M h m z w') : OpX w0 w b M h w' := by
  obtain ⟨vl, vs, rs, h1, h2, h3, -⟩ := X
  exact ⟨vl, vs, rs, h1, h2, h3⟩
end Go.Proofs.YtiecgbmeobpomaaDoor
namespace Go.Proofs.YtiecgbmeobpomaaDoor
open Go.RowKit
set_option linter.unusedVariables false
set_option linter.unusedSimpArgs false

set_option maxHeartbeats 1600000 in
set_option maxRecDepth 100000 in
/-- knapsackref48.SameInts. -/
theorem sameInts_any {D E : Nat → Prop} (w : World) (v v' : Value) (l : List Int) (h : SeenN D w 1 v l.length (intC l)) (h' : SeenN E w 1 v' l.length (intC l)) :
    Calls Tryd.prog 37 #[v, v'] w fun e w' => e = .returned (.bool true) ∧ Chg (fun _ => False) w w' := by
  obtain ⟨p, cap, rfl, hc1, hc2, hxl, hp0, hp1⟩ := h
  obtain ⟨p', cap', rfl, -, -, -, -, hp1'⟩ := h'
  have hll : (l.length : Int) ≤ 9223372036854775807 := by unfold maxLen at hc2; omega
  have HLL := Lib.hid hll
  have HP := Lib.hid hp1
  have HP' := Lib.hid hp1'
  have z : ((l.length : Int) != (l.length : Int)) = false := by simp
  clear hc1 hc2 hxl hp0 hp1 hp1' hll
  go_enter Tryd.func37, Tryd.ntmps37
  go_wp2_with fail
  clear z
  go_loopw [4, 5] (fun _ i wr => ∃ k : Nat, k ≤ l.length ∧ i = .int .i64 k ∧ Hid (Chg (fun _ => False) w wr)) (fun _ i _ => l.length - (intOf i).toNat)
  case atStart => exact ⟨0, Nat.zero_le _, rfl, Lib.hid (Chg.refl _ _)⟩
  case round =>
    obtain ⟨k, hk, rfl, HC⟩ := hrel
    by_cases hlt : k < l.length
    · have k0 : (0 : Int) ≤ (k : Int) := by omega
      have k1 : (k : Int) < (l.length : Int) := by omega
      have w64 : IntKind.i64.wrap ((k : Int) + 1) = ((k + 1 : Nat) : Int) := IntWalk.i64_in _ (by have := HLL.out; omega)
      obtain ⟨g, off, rfl, -, -, hcell⟩ := HP.out (by omega)
      obtain ⟨g', off', rfl, -, -, hcell'⟩ := HP'.out (by omega)
      have q0 := HC.out.cell (hcell k (.int .i64 l[k]) (by simp [intC, hlt]))
      have q1 := HC.out.cell (hcell' k (.int .i64 l[k]) (by simp [intC, hlt]))
      have HNX : Hid (k + 1 ≤ l.length) := Lib.hid hlt
      generalize l[k] = x at *
      have z : (x != x) = false := by simp
      clear hk hlt hcell hcell'
      go_upto_region 6 with fail
      go_quiet (fail)
      go_wp2_with fail
      go_roundw
      case rel => exact ⟨k + 1, HNX.out, rfl, Lib.hid (HC.out.drewNR _)⟩
      case measure => have := HNX.out; simp [intOf, w64]; omega
    · have i1 : ¬ (k : Int) < (l.length : Int) := by omega
      clear hk hlt
      go_wp2_with fail
      go_ret
      exact ⟨rfl, HC.out⟩
set_option maxHeartbeats 1600000 in
set_option maxRecDepth 100000 in
/-- knapsackref48.SameEntry. -/
theorem sameEntry_any {D E : Nat → Prop} (w : World) (id page x y : Int) (url title : ByteArray) (sn sp tn tp : Option Addr) (nn cn np cp ln kn lp kp : Nat) (m : Msg) (h1 : MsgAt D w (.slice sn nn cn) (.slice sp np cp) m) (h2 : MsgAt E w (.slice tn ln kn) (.slice tp lp kp) m) (ok : EncOk m) :
    Calls Tryd.prog 18 #[.agg #[.int .i64 id, .int .i64 page, .string url, .string title, .slice sn nn cn, .slice sp np cp, .int .i64 x, .int .i64 y], .agg #[.int .i64 id, .int .i64 page, .string url, .string title, .slice tn ln kn, .slice tp lp kp, .int .i64 x, .int .i64 y]] w fun e w' => e = .returned (.bool true) ∧ Chg (fun _ => False) w w' := by
  have HC := Lib.hid ((Chg.alloc (fun _ => False) w (.cells #[.int .i64 id, .int .i64 page, .string url, .string title, .slice sn nn cn, .slice sp np cp, .int .i64 x, .int .i64 y] 34)).allocR (.cells #[.int .i64 id, .int .i64 page, .string url, .string title, .slice tn ln kn, .slice tp lp kp, .int .i64 x, .int .i64 y] 34))
  have HB1 := Lib.hid (alloc_old (.cells #[.int .i64 id, .int .i64 page, .string url, .string title, .slice tn ln kn, .slice tp lp kp, .int .i64 x, .int .i64 y] 34) (alloc_block w (.cells #[.int .i64 id, .int .i64 page, .string url, .string title, .slice sn nn cn, .slice sp np cp, .int .i64 x, .int .i64 y] 34)))
  have hb3 := alloc_block (w.alloc (.cells #[.int .i64 id, .int .i64 page, .string url, .string title, .slice sn nn cn, .slice sp np cp, .int .i64 x, .int .i64 y] 34)) (.cells #[.int .i64 id, .int .i64 page, .string url, .string title, .slice tn ln kn, .slice tp lp kp, .int .i64 x, .int .i64 y] 34)
  rw [World.size_alloc] at hb3
  have HB2 := Lib.hid hb3
  have HSM := Lib.hid (fun W (hc : Chg (fun _ => False) w W) => same47_any W sn sp tn tp nn cn np cp ln kn lp kp m (h1.chg hc (fun _ _ x => x.elim) (fun _ _ x => x)) (h2.chg hc (fun _ _ x => x.elim) (fun _ _ x => x)) ok)
  clear hb3 h1 h2 ok
  go_enter Tryd.func18, Tryd.ntmps18
  go_upto_region 1 with fail
  generalize (w.alloc (.cells #[.int .i64 id, .int .i64 page, .string url, .string title, .slice sn nn cn, .slice sp np cp, .int .i64 x, .int .i64 y] 34)).alloc (.cells #[.int .i64 id, .int .i64 page, .string url, .string title, .slice tn ln kn, .slice tp lp kp, .int .i64 x, .int .i64 y] 34) = w4 at *
  generalize w.heap.size + 1 = b3 at *
  generalize w.heap.size = b1 at *
  have g0 := cell_of_block (i := 0) HB1.out rfl
  have g1 := cell_of_block (i := 1) HB1.out rfl
  have g2 := cell_of_block (i := 2) HB1.out rfl
  have g3 := cell_of_block (i := 3) HB1.out rfl
  have g4 := cell_of_block (i := 4) HB1.out rfl
  have g5 := cell_of_block (i := 5) HB1.out rfl
  have g6 := cell_of_block (i := 6) HB1.out rfl
  have g7 := cell_of_block (i := 7) HB1.out rfl
  simp only [List.getElem_toArray, List.getElem_cons_zero, List.getElem_cons_succ] at g0 g1 g2 g3 g4 g5 g6 g7
  have h0 := cell_of_block (i := 0) HB2.out rfl
  have h1 := cell_of_block (i := 1) HB2.out rfl
  have h2 := cell_of_block (i := 2) HB2.out rfl
  have h3 := cell_of_block (i := 3) HB2.out rfl
  have h4 := cell_of_block (i := 4) HB2.out rfl
  have h5 := cell_of_block (i := 5) HB2.out rfl
  have h6 := cell_of_block (i := 6) HB2.out rfl
  have h7 := cell_of_block (i := 7) HB2.out rfl
  simp only [List.getElem_toArray, List.getElem_cons_zero, List.getElem_cons_succ] at h0 h1 h2 h3 h4 h5 h6 h7
  have zu : (url.toList == url.toList) = true := by simp
  have zt : (title.toList == title.toList) = true := by simp
  have zi : (id == id) = true := by simp
  have zp : (page == page) = true := by simp
  have zx : (x == x) = true := by simp
  have zy : (y == y) = true := by simp
  go_wp2_with (go_at_call 26; refine (HSM.out _ HC.out).mono ?_; rintro _ w5 ⟨rfl, hc5⟩; have HC5 := Lib.hid (HC.out.trans' hc5); clear hc5)
  go_ret
  exact ⟨rfl, HC5.out⟩
set_option maxHeartbeats 1600000 in
set_option maxRecDepth 100000 in
/-- knapsackref48.SameMove. -/
theorem sameMove_any {D E F G : Nat → Prop} (w : World) (e : Ent) (pg : Int) (aw sl : Bool) (l : List Int) (sn sp tn tp a a' : Option Addr) (nn cn np cp ln kn lp kp n c n' c' : Nat) (h1 : MsgAt D w (.slice sn nn cn) (.slice sp np cp) e.msg) (h2 : MsgAt E w (.slice tn ln kn) (.slice tp lp kp) e.msg) (ok : EncOk e.msg)
    (hl : SeenN F w 1 (.slice a n c) l.length (intC l)) (hl' : SeenN G w 1 (.slice a' n' c') l.length (intC l)) :
    Calls Tryd.prog 16 #[.agg (MvC e (.slice sn nn cn) (.slice sp np cp) pg aw sl (.slice a n c)), .agg (MvC e (.slice tn ln kn) (.slice tp lp kp) pg aw sl (.slice a' n' c'))] w fun e w' => e = .returned (.bool true) ∧ Chg (fun _ => False) w w' := by
  unfold MvC
  have HC := Lib.hid ((Chg.alloc (fun _ => False) w (.cells #[.int .i64 e.id, .int .i64 e.page, .string e.url, .string e.title, .slice sn nn cn, .slice sp np cp, .int .i64 e.x, .int .i64 e.y, .int .i64 pg, .bool aw, .bool sl, .slice a n c] 40)).allocR (.cells #[.int .i64 e.id, .int .i64 e.page, .string e.url, .string e.title, .slice tn ln kn, .slice tp lp kp, .int .i64 e.x, .int .i64 e.y, .int .i64 pg, .bool aw, .bool sl, .slice a' n' c'] 40))
  have HB1 := Lib.hid (alloc_old (.cells #[.int .i64 e.id, .int .i64 e.page, .string e.url, .string e.title, .slice tn ln kn, .slice tp lp kp, .int .i64 e.x, .int .i64 e.y, .int .i64 pg, .bool aw, .bool sl, .slice a' n' c'] 40) (alloc_block w (.cells #[.int .i64 e.id, .int .i64 e.page, .string e.url, .string e.title, .slice sn nn cn, .slice sp np cp, .int .i64 e.x, .int .i64 e.y, .int .i64 pg, .bool aw, .bool sl, .slice a n c] 40)))
  have hb3 := alloc_block (w.alloc (.cells #[.int .i64 e.id, .int .i64 e.page, .string e.url, .string e.title, .slice sn nn cn, .slice sp np cp, .int .i64 e.x, .int .i64 e.y, .int .i64 pg, .bool aw, .bool sl, .slice a n c] 40)) (.cells #[.int .i64 e.id, .int .i64 e.page, .string e.url, .string e.title, .slice tn ln kn, .slice tp lp kp, .int .i64 e.x, .int .i64 e.y, .int .i64 pg, .bool aw, .bool sl, .slice a' n' c'] 40)
  rw [World.size_alloc] at hb3
  have HB2 := Lib.hid hb3
  have HSM := Lib.hid (fun W (hc : Chg (fun _ => False) w W) => sameEntry_any W e.id e.page e.x e.y e.url e.title sn sp tn tp nn cn np cp ln kn lp kp e.msg (h1.chg hc (fun _ _ x => x.elim) (fun _ _ x => x)) (h2.chg hc (fun _ _ x => x.elim) (fun _ _ x => x)) ok)
  have HSI := Lib.hid (fun W (hc : Chg (fun _ => False) w W) => sameInts_any W _ _ l (hl.still hc) (hl'.still hc))
  clear hb3 h1 h2 ok hl hl'
  go_enter Tryd.func16, Tryd.ntmps16
  go_upto_region 1 with fail
  generalize (w.alloc (.cells #[.int .i64 e.id, .int .i64 e.page, .string e.url, .string e.title, .slice sn nn cn, .slice sp np cp, .int .i64 e.x, .int .i64 e.y, .int .i64 pg, .bool aw, .bool sl, .slice a n c] 40)).alloc (.cells #[.int .i64 e.id, .int .i64 e.page, .string e.url, .string e.title, .slice tn ln kn, .slice tp lp kp, .int .i64 e.x, .int .i64 e.y, .int .i64 pg, .bool aw, .bool sl, .slice a' n' c'] 40) = w4 at *
  generalize w.heap.size + 1 = b3 at *
  generalize w.heap.size = b1 at *
  have g0 := cell_of_block (i := 0) HB1.out rfl
  have g1 := cell_of_block (i := 1) HB1.out rfl
  have g2 := cell_of_block (i := 2) HB1.out rfl
  have g3 := cell_of_block (i := 3) HB1.out rfl
  have g4 := cell_of_block (i := 4) HB1.out rfl
  have g5 := cell_of_block (i := 5) HB1.out rfl
  have g6 := cell_of_block (i := 6) HB1.out rfl
  have g7 := cell_of_block (i := 7) HB1.out rfl
  have g8 := cell_of_block (i := 8) HB1.out rfl
  have g9 := cell_of_block (i := 9) HB1.out rfl
  have g10 := cell_of_block (i := 10) HB1.out rfl
  have g11 := cell_of_block (i := 11) HB1.out rfl
  simp only [List.getElem_toArray, List.getElem_cons_zero, List.getElem_cons_succ] at g0 g1 g2 g3 g4 g5 g6 g7 g8 g9 g10 g11
  have h0 := cell_of_block (i := 0) HB2.out rfl
  have h1 := cell_of_block (i := 1) HB2.out rfl
  have h2 := cell_of_block (i := 2) HB2.out rfl
  have h3 := cell_of_block (i := 3) HB2.out rfl
  have h4 := cell_of_block (i := 4) HB2.out rfl
  have h5 := cell_of_block (i := 5) HB2.out rfl
  have h6 := cell_of_block (i := 6) HB2.out rfl
  have h7 := cell_of_block (i := 7) HB2.out rfl
  have h8 := cell_of_block (i := 8) HB2.out rfl
  have h9 := cell_of_block (i := 9) HB2.out rfl
  have h10 := cell_of_block (i := 10) HB2.out rfl
  have h11 := cell_of_block (i := 11) HB2.out rfl
  simp only [List.getElem_toArray, List.getElem_cons_zero, List.getElem_cons_succ] at h0 h1 h2 h3 h4 h5 h6 h7 h8 h9 h10 h11
  have zp : (pg == pg) = true := by simp
  have za : (aw == aw) = true := by simp
  have zs : (sl == sl) = true := by simp
  go_wp2_with (first
    | (go_at_call 18; refine (HSM.out _ HC.out).mono ?_; rintro _ w5 ⟨rfl, hc5⟩; have HC5 := Lib.hid (HC.out.trans' hc5); have g8 := hc5.cell g8; have g9 := hc5.cell g9; have g10 := hc5.cell g10; have g11 := hc5.cell g11; have h8 := hc5.cell h8; have h9 := hc5.cell h9; have h10 := hc5.cell h10; have h11 := hc5.cell h11; clear hc5)
    | (go_at_call 37; refine (HSI.out _ HC5.out).mono ?_; rintro _ w6 ⟨rfl, hc6⟩; have HC6 := Lib.hid (HC5.out.trans' hc6); clear hc6))
  go_ret
  exact ⟨rfl, HC6.out⟩
end Go.Proofs.YtiecgbmeobpomaaDoor
namespace Go.Proofs.YtiecgbmeobpomaaDoor
open Go.RowKit
set_option linter.unusedVariables false
set_option linter.unusedSimpArgs false

structure COp where
  kind : Nat
  url : ByteArray
  keep : Bool
  delta : Int
  msg : Msg
instance (h : Hist) (d : Int) : Decidable (GoOk h d) := inferInstanceAs (Decidable (_ ∧ _))
def doH (A : Msg → Bool) (h : Hist) (o : COp) : Hist :=
  if o.kind % 7 = 0 then navM h o.url o.keep
  else if o.kind % 7 = 1 then (if A o.msg = true then pushM h o.url o.msg else h)
  else if o.kind % 7 = 2 then (if A o.msg = true then replM h o.url o.msg else h)
  else if o.kind % 7 = 3 then (if GoOk h o.delta then goM h o.delta else h)
  else if o.kind % 7 = 4 then scrollM h o.delta o.url.size
  else if o.kind % 7 = 5 then nameM h o.url
  else (if o.delta ∈ h.sleeping then evictM h o.delta else h)
def doE (A : Msg → Bool) (h : Hist) (o : COp) : Int :=
  if o.kind % 7 = 0 then 0
  else if o.kind % 7 = 1 then (if A o.msg = true then 0 else 1)
  else if o.kind % 7 = 2 then (if A o.msg = true then 0 else 1)
  else if o.kind % 7 = 3 then (if GoOk h o.delta then 0 else 2)
  else if o.kind % 7 = 4 then 0
  else if o.kind % 7 = 5 then 0
  else (if o.delta ∈ h.sleeping then 0 else 6)
def doV (A : Msg → Bool) (h : Hist) (o : COp) : Mv :=
  if o.kind % 7 = 0 then navV h o.url o.keep
  else if o.kind % 7 = 1 then (if A o.msg = true then pushV h o.url o.msg else Mv0)
  else if o.kind % 7 = 3 then (if GoOk h o.delta then goV h o.delta else Mv0)
  else Mv0
theorem HOk.step {n : Nat} {h : Hist} (H : HOk n h) (A : Msg → Bool) (o : COp) (hm : MsgOk o.msg) : HOk (n + 1) (doH A h o) := by
  have k := H.mono (Nat.le_succ n)
  unfold doH
  repeat' split
  · exact H.nav _ _
  · exact H.push _ hm
  · exact k
  · exact k.repl _ hm
  · exact k
  · rename_i hd; exact H.go hd
  · exact k
  · exact k.scroll _ _
  · exact k.name _
  · exact k.evict _
  · exact k
theorem PgOk.step {n : Nat} {h : Hist} (P : PgOk h) (H : HOk n h) (A : Msg → Bool) (o : COp) : PgOk (doH A h o) := by
  unfold doH
  repeat' split
  · exact P.nav H _ _
  · exact P.push H _ _
  · exact P
  · exact P.set H (e := pushE h o.url o.msg) rfl
  · exact P
  · rename_i hd; exact P.go H hd
  · exact P
  · exact P.set H (e := { curE h with x := o.delta, y := o.url.size }) rfl
  · exact P.set H (e := { curE h with title := o.url }) rfl
  · exact P.evict _
  · exact P
def newH (url : ByteArray) : Hist := ⟨[⟨1, 1, url, ⟨#[]⟩, Msg0, 0, 0⟩], 0, 2, 2, []⟩
theorem HOk.new (url : ByteArray) : HOk 0 (newH url) :=
  ⟨by show 0 < 1; omega, by show 1 ≤ 50; omega, by show 0 ≤ 0; omega, by show (0 : Int) ≤ 2 ∧ (2 : Int) ≤ ((0 : Nat) : Int) + 2; omega, by show (2 : Int) ≤ 2 ∧ (2 : Int) ≤ ((0 : Nat) : Int) + 2; omega, fun e he => by
    rw [newH, List.mem_singleton] at he; subst he; exact msgOk0⟩
theorem PgOk.new (url : ByteArray) : PgOk (newH url) :=
  ⟨List.Pairwise.nil, (fun h => by cases h), (fun p h => by cases h), fun e he => by
    rw [newH, List.mem_singleton] at he; subst he; show (1 : Int) ≤ 1 ∧ (1 : Int) < 2; omega⟩
/-- All operations. -/
def doAll (A : Msg → Bool) (h : Hist) (l : List COp) : Hist := l.foldl (doH A) h
theorem doAll_ok (A : Msg → Bool) : ∀ (l : List COp) (n : Nat) (h : Hist), (∀ o ∈ l, MsgOk o.msg) → HOk n h → PgOk h → HOk (n + l.length) (doAll A h l) ∧ PgOk (doAll A h l)
  | [], n, h, _, H, P => ⟨H, P⟩
  | o :: l, n, h, hm, H, P => by
    have := doAll_ok A l (n + 1) (doH A h o) (fun x hx => hm x (List.mem_cons_of_mem _ hx)) (H.step A o (hm o List.mem_cons_self)) (P.step H A o)
    rw [List.length_cons, show n + (l.length + 1) = n + 1 + l.length by omega]
    exact this

/-- The table of the pages. -/
def pgAt (st : List Int) (p : Int) : Int := st.getD p.toNat 0
def pgSet (st : List Int) (p x : Int) : List Int := st.set p.toNat x
theorem pgSet_length (st : List Int) (p x : Int) : (pgSet st p x).length = st.length := List.length_set
theorem pgAt_set {st : List Int} {p q x : Int} (hp : 0 ≤ p) (hp2 : p < st.length) (hq : 0 ≤ q) : pgAt (pgSet st p x) q = if q = p then x else pgAt st q := by
  unfold pgAt pgSet
  rw [List.getD_eq_getElem?_getD, List.getD_eq_getElem?_getD, List.getElem?_set]
  by_cases h : q = p
  · subst h
    rw [if_pos rfl, if_pos (by omega), if_pos rfl]; rfl
  · rw [if_neg (by omega), if_neg h]
structure StOk (h : Hist) (st : List Int) : Prop where
  len : (st.length : Int) = h.nextPage
  pos : ∀ p : Int, 1 ≤ p → p < st.length → pgAt st p ≠ 0
  two : ∀ p : Int, 1 ≤ p → p < st.length → (pgAt st p = 2 ↔ p ∈ h.sleeping)
  one : ∀ p : Int, 1 ≤ p → p < st.length → (pgAt st p = 1 ↔ p = (curE h).page)
theorem StOk.new (url : ByteArray) : StOk (newH url) [0, 1] := by
  have h1 : ∀ p : Int, 1 ≤ p → p < (([0, 1] : List Int).length : Int) → p = 1 := fun p a b => by
    simp only [List.length_cons, List.length_nil] at b; omega
  refine ⟨rfl, fun p a b => ?_, fun p a b => ?_, fun p a b => ?_⟩ <;> (rw [h1 p a b]; simp [pgAt, newH, curE])
/-- The closed pages are marked one by one. -/
def stClose (st : List Int) (l : List Int) : List Int := l.foldl (fun s p => pgSet s p 3) st
theorem stClose_length : ∀ (l : List Int) (st : List Int), (stClose st l).length = st.length
  | [], st => rfl
  | p :: l, st => by rw [stClose, List.foldl_cons]; exact (stClose_length l _).trans (pgSet_length ..)
theorem stClose_at : ∀ (l : List Int) (st : List Int) (q : Int), 0 ≤ q → (∀ p ∈ l, 0 ≤ p ∧ p < st.length) → pgAt (stClose st l) q = if q ∈ l then 3 else pgAt st q
  | [], st, q, hq, hl => by simp [stClose]
  | p :: l, st, q, hq, hl => by
    have h1 := hl p List.mem_cons_self
    have ih := stClose_at l (pgSet st p 3) q hq (fun x hx => by rw [pgSet_length]; exact hl x (List.mem_cons_of_mem _ hx))
    rw [stClose, List.foldl_cons]
    refine ih.trans ?_
    rw [pgAt_set h1.1 h1.2 hq]
    by_cases a : q = p
    · subst a; simp
    · simp [a]
theorem stClose_take (st l : List Int) (i : Nat) (hi : i < l.length) : stClose st (l.take (i + 1)) = pgSet (stClose st (l.take i)) l[i] 3 := by
  unfold stClose
  rw [List.take_succ_eq_append_getElem hi, List.foldl_append]
  rfl
/-- What the law checks of a move, and the table behind it. -/
def stGrow (st : List Int) (v : Mv) : List Int := if v.page = st.length then st ++ [0] else st
def stLeft (st : List Int) (old : Int) (v : Mv) : List Int := if v.page = old then st else pgSet st old (if v.sleeps = true then 2 else 0)
def stMove (st : List Int) (old : Int) (v : Mv) : List Int := pgSet (stLeft (stGrow st v) old v) v.page 1
structure MvOk (h h' : Hist) (v : Mv) (st : List Int) : Prop where
  page : 1 ≤ v.page ∧ v.page ≤ st.length ∧ v.page = (curE h').page
  old : 1 ≤ (curE h).page ∧ (curE h).page < st.length
  wake : v.awake = true ↔ pgAt (stGrow st v) v.page = 1 ∨ pgAt (stGrow st v) v.page = 2
  sleeps : v.page = (curE h).page → v.sleeps = false
  asc : v.closed.Pairwise (· < ·)
  closed : ∀ p ∈ v.closed, 1 ≤ p ∧ p < (stMove st (curE h).page v).length ∧ (pgAt (stMove st (curE h).page v) p = 0 ∨ pgAt (stMove st (curE h).page v) p = 2)
  st : StOk h' (stClose (stMove st (curE h).page v) v.closed)
theorem pgAt_snoc {st : List Int} {p : Int} (hp : 0 ≤ p) (h : p ≤ st.length) : pgAt (st ++ [0]) p = if p = st.length then 0 else pgAt st p := by
  unfold pgAt
  by_cases a : p = st.length
  · subst a; simp
  · rw [if_neg a, List.getD_eq_getElem?_getD, List.getD_eq_getElem?_getD, List.getElem?_append_left (by omega)]
theorem shown_mem {h : Hist} {p : Int} : shownP h p = true ↔ ∃ e ∈ h.list, e.page = p := by
  unfold shownP
  rw [List.any_eq_true]
  constructor
  · rintro ⟨e, h1, h2⟩; exact ⟨e, h1, by simpa using h2⟩
  · rintro ⟨e, h1, h2⟩; exact ⟨e, h1, by simpa using h2⟩
theorem kept_mem {h : Hist} {l : List Int} {p : Int} : p ∈ keptL h l ↔ p ∈ l ∧ shownP h p = true := List.mem_filter
theorem gone_mem {h : Hist} {l : List Int} {p : Int} : p ∈ goneL h l ↔ p ∈ l ∧ ¬ shownP h p = true := by
  unfold goneL
  rw [List.mem_filter]
  simp
theorem mvOk_nav {n : Nat} {h : Hist} {st : List Int} (H : HOk n h) (P : PgOk h) (S : StOk h st) (url : ByteArray) (keep : Bool) : MvOk h (navM h url keep) (navV h url keep) st := by
  have hc : curE (navH h url) = { navE h url with id := h.next } := curE_add h (navE h url)
  have hp : (navV h url keep).page = st.length := by
    show (curE (navH h url)).page = _
    rw [hc, S.len]; rfl
  have hcur : curE (navM h url keep) = curE (navH h url) := by unfold navM; split <;> rfl
  have hold := P.old _ (curE_mem h H.ok)
  have hl := S.len
  have hpg := H.page
  have hne : ¬ (navV h url keep).page = (curE h).page := by rw [hp]; omega
  have hg : stGrow st (navV h url keep) = st ++ [0] := by unfold stGrow; rw [if_pos hp]
  have hgl : (stGrow st (navV h url keep)).length = st.length + 1 := by rw [hg, List.length_append]; rfl
  have hlf : (stLeft (stGrow st (navV h url keep)) (curE h).page (navV h url keep)) = pgSet (st ++ [0]) (curE h).page (if navS h url keep = true then 2 else 0) := by
    unfold stLeft; rw [if_neg hne, hg]; rfl
  have hml : (stMove st (curE h).page (navV h url keep)).length = st.length + 1 := by
    unfold stMove
    rw [pgSet_length, hlf, pgSet_length, List.length_append]; rfl
  have hat : ∀ q : Int, 0 ≤ q → q ≤ st.length → pgAt (stMove st (curE h).page (navV h url keep)) q = if q = st.length then 1 else if q = (curE h).page then (if navS h url keep = true then 2 else 0) else pgAt st q := fun q h0 h1 => by
    unfold stMove
    rw [hlf, hp, pgAt_set (by omega) (by rw [pgSet_length, List.length_append]; simp only [List.length_cons, List.length_nil]; omega) h0]
    by_cases a : q = st.length
    · rw [if_pos a, if_pos a]
    · rw [if_neg a, if_neg a, pgAt_set (by omega) (by rw [List.length_append]; simp only [List.length_cons, List.length_nil]; omega) h0, pgAt_snoc h0 h1, if_neg a]
  have hcl : ∀ p, p ∈ (navV h url keep).closed ↔ (p ∈ h.sleeping ∧ ¬ shownP (navH h url) p = true) ∨ (¬ navS h url keep = true ∧ p = (curE h).page) := fun p => by
    unfold navV
    simp only
    split
    · rename_i hs
      rw [gone_mem]
      simp [hs]
    · rename_i hs
      rw [mem_snoc, gone_mem]
      simp [hs]
  refine ⟨⟨by rw [hp]; omega, by rw [hp]; omega, by rw [hcur]; rfl⟩, ⟨hold.1, by omega⟩, ?_, fun e => (hne e).elim, ?_, fun p hpc => ?_, ?_⟩
  · rw [hg, hp, pgAt_snoc (by omega) (by omega), if_pos rfl]
    show (false = true) ↔ _
    simp
  · unfold navV
    simp only
    split
    · exact P.asc.filter _
    · exact asc_snoc (P.asc.filter _) (fun hx => P.cur (gone_mem.1 hx).1)
  · rw [hml]
    rcases (hcl p).1 hpc with ⟨a, -⟩ | ⟨hs, rfl⟩
    · have h1 := P.lt p a
      have h2 : p ≠ (curE h).page := fun e => P.cur (e ▸ a)
      refine ⟨h1.1, by omega, .inr ?_⟩
      rw [hat p (by omega) (by omega), if_neg (by omega), if_neg h2]
      exact (S.two p h1.1 (by omega)).2 a
    · refine ⟨hold.1, by omega, .inl ?_⟩
      rw [hat _ (by omega) (by omega), if_neg (by omega), if_pos rfl, if_neg hs]
  · have hin : ∀ p ∈ (navV h url keep).closed, 0 ≤ p ∧ p < ((stMove st (curE h).page (navV h url keep)).length : Int) := fun p hpc => by
      rw [hml]
      rcases (hcl p).1 hpc with ⟨a, -⟩ | ⟨hs, rfl⟩
      · have h1 := P.lt p a; omega
      · omega
    have hnp : (navM h url keep).nextPage = h.nextPage + 1 := by unfold navM; split <;> rfl
    have hsl : ∀ p, p ∈ (navM h url keep).sleeping ↔ (p ∈ h.sleeping ∧ shownP (navH h url) p = true) ∨ (navS h url keep = true ∧ p = (curE h).page) := fun p => by
      unfold navM
      split
      · rename_i hs
        show p ∈ sorted (keptL (navH h url) h.sleeping ++ [(curE h).page]) ↔ _
        rw [mem_snoc, kept_mem]
        simp [hs]
      · rename_i hs
        show p ∈ keptL (navH h url) h.sleeping ↔ _
        rw [kept_mem]
        simp [hs]
    have hfin : ∀ p : Int, 1 ≤ p → p < st.length + 1 → pgAt (stClose (stMove st (curE h).page (navV h url keep)) (navV h url keep).closed) p = if p ∈ (navV h url keep).closed then 3 else if p = st.length then 1 else if p = (curE h).page then (if navS h url keep = true then 2 else 0) else pgAt st p := fun p a b => by
      rw [stClose_at _ _ _ (by omega) hin, hat p (by omega) (by omega)]
    have hlen : ((stClose (stMove st (curE h).page (navV h url keep)) (navV h url keep).closed).length : Int) = st.length + 1 := by rw [stClose_length, hml]; omega
    refine ⟨by rw [hlen, hnp, hl], fun p a b => ?_, fun p a b => ?_, fun p a b => ?_⟩ <;> (rw [hlen] at b; rw [hfin p a b]; have hcp := hcl p; clear hfin hin hat hcl)
    · split
      · decide
      · rename_i hx
        rw [hcp] at hx
        split
        · decide
        · split
          · rename_i h1 h2
            split
            · decide
            · rename_i h3
              exact (hx (.inr ⟨h3, h2⟩)).elim
          · exact S.pos p a (by omega)
    · rw [hsl p]
      by_cases hx : p ∈ (navV h url keep).closed
      · rw [if_pos hx]
        refine ⟨fun e => (by cases e), fun e => ?_⟩
        rcases hcp.1 hx with ⟨x1, x2⟩ | ⟨x1, x2⟩ <;> rcases e with ⟨y1, y2⟩ | ⟨y1, y2⟩
        · exact (x2 y2).elim
        · exact (P.cur (y2 ▸ x1)).elim
        · exact (P.cur (x2 ▸ y1)).elim
        · exact (x1 y1).elim
      · rw [if_neg hx]
        rw [hcp] at hx
        by_cases h1 : p = st.length
        · rw [if_pos h1]
          refine ⟨fun e => (by cases e), fun e => ?_⟩
          rcases e with ⟨y1, y2⟩ | ⟨y1, y2⟩
          · have := P.lt p y1; omega
          · omega
        · rw [if_neg h1]
          by_cases h2 : p = (curE h).page
          · rw [if_pos h2]
            by_cases h3 : navS h url keep = true
            · rw [if_pos h3]
              exact ⟨fun _ => .inr ⟨h3, h2⟩, fun _ => rfl⟩
            · exact (hx (.inr ⟨h3, h2⟩)).elim
          · rw [if_neg h2, S.two p a (by omega)]
            refine ⟨fun e => .inl ⟨e, Classical.not_not.1 fun hs => hx (.inl ⟨e, hs⟩)⟩, fun e => ?_⟩
            rcases e with ⟨y1, y2⟩ | ⟨y1, y2⟩
            · exact y1
            · exact (h2 y2).elim
    · rw [hcur, hc]
      show _ ↔ p = h.nextPage
      by_cases hx : p ∈ (navV h url keep).closed
      · rw [if_pos hx]
        refine ⟨fun e => (by cases e), fun e => ?_⟩
        rcases hcp.1 hx with ⟨x1, x2⟩ | ⟨x1, x2⟩
        · have := P.lt p x1; omega
        · omega
      · rw [if_neg hx]
        by_cases h1 : p = st.length
        · rw [if_pos h1]; exact ⟨fun _ => by omega, fun _ => rfl⟩
        · rw [if_neg h1]
          by_cases h2 : p = (curE h).page
          · rw [if_pos h2]
            refine ⟨fun e => ?_, fun e => by omega⟩
            split at e <;> cases e
          · rw [if_neg h2, S.one p a (by omega)]
            exact ⟨fun e => (h2 e).elim, fun e => by omega⟩
theorem mvOk_push {n : Nat} {h : Hist} {st : List Int} (H : HOk n h) (P : PgOk h) (S : StOk h st) (url : ByteArray) (m : Msg) : MvOk h (pushM h url m) (pushV h url m) st := by
  have hc : curE (pushH h url m) = { pushE h url m with id := h.next } := curE_add h (pushE h url m)
  have hcur : curE (pushM h url m) = curE (pushH h url m) := rfl
  have hcp : (curE (pushM h url m)).page = (curE h).page := by rw [hcur, hc]; rfl
  have hold := P.old _ (curE_mem h H.ok)
  have hl := S.len
  have hp : (pushV h url m).page = (curE h).page := rfl
  have hg : stGrow st (pushV h url m) = st := by unfold stGrow; rw [if_neg (by rw [hp]; omega)]
  have hlf : stLeft st (curE h).page (pushV h url m) = st := by unfold stLeft; rw [if_pos hp]
  have hmv : stMove st (curE h).page (pushV h url m) = pgSet st (curE h).page 1 := by unfold stMove; rw [hg, hlf, hp]
  have h1 : pgAt st (curE h).page = 1 := (S.one _ hold.1 (by omega)).2 rfl
  have hat : ∀ q : Int, 0 ≤ q → pgAt (pgSet st (curE h).page 1) q = pgAt st q := fun q h0 => by
    rw [pgAt_set (by omega) (by omega) h0]
    by_cases a : q = (curE h).page
    · rw [if_pos a, a, h1]
    · rw [if_neg a]
  have hcl : ∀ p, p ∈ (pushV h url m).closed ↔ p ∈ h.sleeping ∧ ¬ shownP (pushH h url m) p = true := fun p => gone_mem
  refine ⟨⟨by rw [hp]; omega, by rw [hp]; omega, by rw [hcp, hp]⟩, ⟨hold.1, by omega⟩, ?_, fun _ => rfl, P.asc.filter _, fun p hpc => ?_, ?_⟩
  · rw [hg, hp, h1]
    exact ⟨fun _ => .inl rfl, fun _ => rfl⟩
  · have a := (hcl p).1 hpc
    have h2 := P.lt p a.1
    rw [hmv, pgSet_length, hat p (by omega)]
    exact ⟨h2.1, by omega, .inr ((S.two p h2.1 (by omega)).2 a.1)⟩
  · rw [hmv]
    have hin : ∀ p ∈ (pushV h url m).closed, 0 ≤ p ∧ p < ((pgSet st (curE h).page 1).length : Int) := fun p hpc => by
      have h2 := P.lt p ((hcl p).1 hpc).1
      rw [pgSet_length]; omega
    have hfin : ∀ p : Int, 1 ≤ p → pgAt (stClose (pgSet st (curE h).page 1) (pushV h url m).closed) p = if p ∈ (pushV h url m).closed then 3 else pgAt st p := fun p a => by
      rw [stClose_at _ _ _ (by omega) hin, hat p (by omega)]
    have hlen : ((stClose (pgSet st (curE h).page 1) (pushV h url m).closed).length : Int) = st.length := by rw [stClose_length, pgSet_length]
    refine ⟨by rw [hlen, hl]; rfl, fun p a b => ?_, fun p a b => ?_, fun p a b => ?_⟩ <;> (rw [hlen] at b; rw [hfin p a]; have hx := hcl p)
    · split
      · decide
      · exact S.pos p a b
    · show _ ↔ p ∈ keptL (pushH h url m) h.sleeping
      rw [kept_mem]
      split
      · rename_i hy
        exact ⟨fun e => (by cases e), fun e => ((hx.1 hy).2 e.2).elim⟩
      · rename_i hy
        rw [S.two p a b]
        exact ⟨fun e => ⟨e, Classical.not_not.1 fun hs => hy (hx.2 ⟨e, hs⟩)⟩, fun e => e.1⟩
    · rw [hcp]
      split
      · rename_i hy
        exact ⟨fun e => (by cases e), fun e => (P.cur (e ▸ (hx.1 hy).1)).elim⟩
      · exact S.one p a b
theorem mvOk_go {n : Nat} {h : Hist} {st : List Int} (H : HOk n h) (P : PgOk h) (S : StOk h st) {d : Int} (hd : GoOk h d) : MvOk h (goM h d) (goV h d) st := by
  have k := H.goH hd
  have hold := P.old _ (curE_mem h H.ok)
  have hnew := P.old _ (curE_mem (goH h d) k.ok)
  have hl := S.len
  have hp : (goV h d).page = (curE (goH h d)).page := by unfold goV; split <;> rfl
  have hcur : curE (goM h d) = curE (goH h d) := by unfold goM; split <;> rfl
  have hclo : (goV h d).closed = [] := by unfold goV; split <;> rfl
  have hnp : (goM h d).nextPage = h.nextPage := by unfold goM; split <;> rfl
  have hg : stGrow st (goV h d) = st := by unfold stGrow; rw [if_neg (by rw [hp]; omega)]
  have h1 : pgAt st (curE h).page = 1 := (S.one _ hold.1 (by omega)).2 rfl
  by_cases he : (curE (goH h d)).page = (curE h).page
  · have hlf : stLeft st (curE h).page (goV h d) = st := by unfold stLeft; rw [if_pos (by rw [hp]; exact he)]
    have hmv : stMove st (curE h).page (goV h d) = pgSet st (curE h).page 1 := by unfold stMove; rw [hg, hlf, hp, he]
    have hat : ∀ q : Int, 0 ≤ q → pgAt (pgSet st (curE h).page 1) q = pgAt st q := fun q h0 => by
      rw [pgAt_set (by omega) (by omega) h0]
      by_cases a : q = (curE h).page
      · rw [if_pos a, a, h1]
      · rw [if_neg a]
    refine ⟨⟨by rw [hp]; omega, by rw [hp]; omega, by rw [hp, hcur]⟩, ⟨hold.1, by omega⟩, ?_, fun _ => by unfold goV; rw [if_pos he], by rw [hclo]; exact .nil, fun p hpc => (by rw [hclo] at hpc; cases hpc), ?_⟩
    · rw [hg, hp, he, h1]
      exact ⟨fun _ => .inl rfl, fun _ => by unfold goV; rw [if_pos he]⟩
    · rw [hclo, hmv]
      show StOk _ (pgSet st (curE h).page 1)
      have hsl : (goM h d).sleeping = h.sleeping := by unfold goM; rw [if_pos he]; rfl
      refine ⟨by rw [pgSet_length, hnp, hl], fun p a b => ?_, fun p a b => ?_, fun p a b => ?_⟩ <;> (rw [pgSet_length] at b; rw [hat p (by omega)])
      · exact S.pos p a b
      · rw [hsl]; exact S.two p a b
      · rw [hcur, he]; exact S.one p a b
  · have hsp : (goV h d).sleeps = true := by unfold goV; rw [if_neg he]
    have hlf : stLeft st (curE h).page (goV h d) = pgSet st (curE h).page 2 := by unfold stLeft; rw [if_neg (by rw [hp]; exact he), hsp, if_pos rfl]
    have hmv : stMove st (curE h).page (goV h d) = pgSet (pgSet st (curE h).page 2) (curE (goH h d)).page 1 := by unfold stMove; rw [hg, hlf, hp]
    have hat : ∀ q : Int, 0 ≤ q → pgAt (pgSet (pgSet st (curE h).page 2) (curE (goH h d)).page 1) q = if q = (curE (goH h d)).page then 1 else if q = (curE h).page then 2 else pgAt st q := fun q h0 => by
      rw [pgAt_set (by omega) (by rw [pgSet_length]; omega) h0, pgAt_set (by omega) (by omega) h0]
    refine ⟨⟨by rw [hp]; omega, by rw [hp]; omega, by rw [hp, hcur]⟩, ⟨hold.1, by omega⟩, ?_, fun e => (he (by rw [hp] at e; exact e)).elim, by rw [hclo]; exact .nil, fun p hpc => (by rw [hclo] at hpc; cases hpc), ?_⟩
    · rw [hg, hp, S.two _ hnew.1 (by have : (curE (goH h d)).page < h.nextPage := hnew.2; omega), S.one _ hnew.1 (by have : (curE (goH h d)).page < h.nextPage := hnew.2; omega)]
      unfold goV
      rw [if_neg he]
      simp [he]
    · rw [hclo, hmv]
      show StOk _ (pgSet (pgSet st (curE h).page 2) (curE (goH h d)).page 1)
      have hsl : ∀ p, p ∈ (goM h d).sleeping ↔ (p ∈ h.sleeping ∧ p ≠ (curE (goH h d)).page) ∨ p = (curE h).page := fun p => by
        unfold goM
        rw [if_neg he]
        show p ∈ sorted (h.sleeping.erase (curE (goH h d)).page ++ [(curE h).page]) ↔ _
        rw [mem_snoc, P.nd.mem_erase_iff]
        constructor
        · rintro (⟨a, b⟩ | a)
          · exact .inl ⟨b, a⟩
          · exact .inr a
        · rintro (⟨a, b⟩ | a)
          · exact .inl ⟨b, a⟩
          · exact .inr a
      refine ⟨by rw [pgSet_length, pgSet_length, hnp, hl], fun p a b => ?_, fun p a b => ?_, fun p a b => ?_⟩ <;> (rw [pgSet_length, pgSet_length] at b; rw [hat p (by omega)])
      · split
        · decide
        · split
          · decide
          · exact S.pos p a b
      · rw [hsl]
        by_cases x : p = (curE (goH h d)).page
        · rw [if_pos x]
          refine ⟨fun e => (by cases e), fun e => ?_⟩
          rcases e with ⟨-, y⟩ | y
          · exact (y x).elim
          · exact (he (x.symm.trans y)).elim
        · rw [if_neg x]
          by_cases y : p = (curE h).page
          · rw [if_pos y]
            exact ⟨fun _ => .inr y, fun _ => rfl⟩
          · rw [if_neg y, S.two p a b]
            exact ⟨fun e => .inl ⟨e, x⟩, fun e => e.elim (fun z => z.1) (fun z => (y z).elim)⟩
      · rw [hcur]
        by_cases x : p = (curE (goH h d)).page
        · rw [if_pos x]; exact ⟨fun _ => x, fun _ => rfl⟩
        · rw [if_neg x]
          by_cases y : p = (curE h).page
          · rw [if_pos y]
            exact ⟨fun e => (by cases e), fun e => (x e).elim⟩
          · rw [if_neg y, S.one p a b]
            exact ⟨fun e => (y e).elim, fun e => (x e).elim⟩
theorem stOk_evict {n : Nat} {h : Hist} {st : List Int} (H : HOk n h) (P : PgOk h) (S : StOk h st) {p : Int} (hp : p ∈ h.sleeping) : 1 ≤ p ∧ p < st.length ∧ pgAt st p = 2 ∧ StOk (evictM h p) (pgSet st p 4) := by
  have h1 := P.lt p hp
  have hl := S.len
  refine ⟨h1.1, by omega, (S.two p h1.1 (by omega)).2 hp, by rw [pgSet_length]; exact hl, fun q a b => ?_, fun q a b => ?_, fun q a b => ?_⟩ <;> (rw [pgSet_length] at b; rw [pgAt_set (by omega) (by omega) (by omega)])
  · split
    · decide
    · exact S.pos q a b
  · show _ ↔ q ∈ h.sleeping.erase p
    rw [P.nd.mem_erase_iff]
    split
    · rename_i e
      exact ⟨fun e => (by cases e), fun x => (x.1 e).elim⟩
    · rename_i e
      rw [S.two q a b]
      exact ⟨fun x => ⟨e, x⟩, fun x => x.2⟩
  · show _ ↔ q = (curE h).page
    split
    · rename_i e
      subst e
      exact ⟨fun e => (by cases e), fun x => (P.cur (x ▸ hp)).elim⟩
    · exact S.one q a b
theorem stOk_set {n : Nat} {h : Hist} {st : List Int} (H : HOk n h) (S : StOk h st) {e : Ent} (he : e.page = (curE h).page) : StOk { h with list := h.list.set h.at_ e } st := by
  refine ⟨S.len, S.pos, S.two, fun p a b => ?_⟩
  rw [S.one p a b]
  show _ ↔ p = (List.getD (h.list.set h.at_ e) h.at_ Ent0).page
  rw [List.getD_eq_getElem?_getD, List.getElem?_set_self H.ok]
  show _ ↔ p = e.page
  rw [he]
end Go.Proofs.YtiecgbmeobpomaaDoor
namespace Go.Proofs.YtiecgbmeobpomaaDoor
open Go.RowKit
set_option linter.unusedVariables false
set_option linter.unusedSimpArgs false

def evictE (h : Hist) (p : Int) : Int := if p ∈ h.sleeping then 0 else 6
def evictX (h : Hist) (p : Int) : Hist := if p ∈ h.sleeping then evictM h p else h
set_option maxHeartbeats 6400000 in
set_option maxRecDepth 100000 in
theorem evict_any (w0 : Past) (w : World) (b : Nat) (h : Hist) (vl vs : Value) (rs : List EntR) (H : HiAt w0 w b h vl vs rs) (p : Int) :
    Calls Tryd.prog 29 #[.pointer (some ⟨b, 0, none⟩), .int .i64 p] w fun z w' => z = .returned (.int .i64 (evictE h p)) ∧ OpX w0 w b (Mut b vl vs) (evictX h p) w' := by
  have HH := Lib.hid H
  have d0 := cell_of_block (i := 4) H.box rfl
  simp only [List.getElem_toArray, List.getElem_cons_zero, List.getElem_cons_succ] at d0
  have HIX := Lib.hid (idxI_any w vs h.sleeping p H.slp)
  have HF := Lib.hid H.few.2
  rcases idxOf_or p h.sleeping with ⟨hn, hi⟩ | ⟨i, hi, hx, he, hm⟩
  · rw [hi] at HIX
    have hE : evictE h p = 6 := by unfold evictE; rw [if_neg hn]
    have hX : evictX h p = h := by unfold evictX; rw [if_neg hn]
    rw [hE, hX]
    clear H hn hi hE hX
    go_enter Tryd.func29, Tryd.ntmps29
    go_wp2_with (go_at_call 39; refine HIX.out.mono ?_; rintro _ w1 ⟨rfl, rfl⟩)
    go_ret
    exact ⟨rfl, HH.out.opx⟩
  · rw [hx] at HIX
    have hE : evictE h p = 0 := by unfold evictE; rw [if_pos hm]
    have hX : evictX h p = { h with sleeping := h.sleeping.take i ++ h.sleeping.drop (i + 1) } := by unfold evictX; rw [if_pos hm, he]; rfl
    rw [hE, hX]
    have HDE := Lib.hid (delI_any w vs h.sleeping i (i + 1) H.slp (Nat.lt_succ_self i) hi)
    have i0 : ¬ ((i : Int) < 0) := by omega
    have wi : IntKind.i64.wrap ((i : Int) + 1) = ((i + 1 : Nat) : Int) := IntWalk.i64_in _ (by have := HF.out; omega)
    have wi1 : wrap64 ((i : Int) + 1) = ((i + 1 : Nat) : Int) := IntWalk.wrap64_in _ (by have := HF.out; omega)
    have FR : Hid (∀ W1, Chg (fun k => vs.ownBlock = some k) w W1 → (∃ u, W1.cell? ⟨b, 4, none⟩ = some u) ∧ W1.frozen? ⟨b, 4, none⟩ = false) := Lib.hid (fun W1 hc => by
      have hb := hc.keep HH.out.box HH.out.sb
      exact ⟨⟨_, cell_of_block (i := 4) hb rfl⟩, frozen_of_block hb⟩)
    have HLL : Hid ((h.sleeping.take i ++ h.sleeping.drop (i + 1)).length ≤ 1000) := Lib.hid (by rw [List.length_append, List.length_take, List.length_drop]; have := HF.out; omega)
    clear H hi hx he hm hE hX
    generalize h.sleeping.take i ++ h.sleeping.drop (i + 1) = zs at *
    go_enter Tryd.func29, Tryd.ntmps29
    go_upto_region 5 with first
      | (go_at_call 39; refine HIX.out.mono ?_; rintro _ w1 ⟨rfl, rfl⟩)
      | (go_at_call 40; refine HDE.out.mono ?_; rintro _ w2 ⟨v2, rfl, hrow2, hch2, hold2⟩; obtain ⟨a2, c2, rfl, -, -⟩ := hrow2.slice; obtain ⟨⟨u2, hu2⟩, hf2⟩ := FR.out w2 hch2)
    have HR := Lib.hid (HH.out.resleep hch2 zs hrow2 HLL.out (fun k hk => .inl (hold2 k hk)))
    have HCS := Lib.hid (hch2.trans (Chg.setCell w2 ⟨b, 4, none⟩ (.slice a2 zs.length c2)) (fun k _ x => (.inr (.inr x) : Mut b vl vs k)) (fun k _ x => .inl x))
    have HOL := Lib.hid hold2
    clear hrow2 hch2 hold2 hu2 hf2 FR d0
    generalize w2.setCell ⟨b, 4, none⟩ (.slice a2 zs.length c2) = w3 at *
    go_wp2_with fail
    go_ret
    exact ⟨rfl, _, _, _, HR.out, HCS.out, fun k _ x => x.elim .inl (fun y => .inr (y.elim .inl (fun z => .inr (HOL.out k z))))⟩
set_option maxHeartbeats 6400000 in
set_option maxRecDepth 100000 in
theorem new_any (w : World) (url : ByteArray) :
    Calls Tryd.prog 13 #[.string url] w fun z w' => ∃ vl, z = .returned (.agg #[vl, .int .i64 0, .int .i64 2, .int .i64 2, .slice none 0 0]) ∧ Chg (fun _ => False) w w' ∧
      RowAt w' 34 8 vl 1 [.int .i64 1, .int .i64 1, .string url, .string ⟨#[]⟩, .slice none 0 0, .slice none 0 0, .int .i64 0, .int .i64 0] ∧ (∀ k, vl.ownBlock = some k → w.heap.size ≤ k) := by
  go_enter Tryd.func13, Tryd.ntmps13
  go_upto_region 1 with fail
  go_wp2_with fail
  have hb := alloc_old (.cells #[.int .i64 1, .int .i64 1, .string url, .string ⟨#[]⟩, .slice none 0 0, .slice none 0 0, .int .i64 0, .int .i64 0] 34) (alloc_block w (.cells #[.slice (some ⟨w.heap.size + 1, 0, none⟩) 1 1, .int .i64 0, .int .i64 2, .int .i64 2, .slice none 0 0] 28))
  have hr := RowAt.singleAt (w.alloc (.cells #[.slice (some ⟨w.heap.size + 1, 0, none⟩) 1 1, .int .i64 0, .int .i64 2, .int .i64 2, .slice none 0 0] 28)) 34 8 (w.heap.size + 1) #[.int .i64 1, .int .i64 1, .string url, .string ⟨#[]⟩, .slice none 0 0, .slice none 0 0, .int .i64 0, .int .i64 0] (World.size_alloc ..) rfl
  have hc := (Chg.alloc (fun _ => False) w (.cells #[.slice (some ⟨w.heap.size + 1, 0, none⟩) 1 1, .int .i64 0, .int .i64 2, .int .i64 2, .slice none 0 0] 28)).allocR (.cells #[.int .i64 1, .int .i64 1, .string url, .string ⟨#[]⟩, .slice none 0 0, .slice none 0 0, .int .i64 0, .int .i64 0] 34)
  refine bodyPost_ret (results_cell_row rfl _ _ w.heap.size _ _ _ _ (by rfl) hb Tryd.underlying28 rfl (by kernel_rfl)) rfl ?_
  refine ⟨_, rfl, hc, hr, fun k hk => ?_⟩
  have : w.heap.size + 1 = k := by simpa [Value.ownBlock] using hk
  omega
/-- The new history, stored at b. -/
theorem newHi {w0 : Past} {W : World} {b : Nat} {vl : Value} {url : ByteArray} (hb : W.heap[b]? = some (.cells #[vl, .int .i64 0, .int .i64 2, .int .i64 2, .slice none 0 0] 28 (0, 0)))
    (hr : RowAt W 34 8 vl 1 [.int .i64 1, .int .i64 1, .string url, .string ⟨#[]⟩, .slice none 0 0, .slice none 0 0, .int .i64 0, .int .i64 0]) (hc : Chg (fun _ => False) w0 W) (hlo : ∀ k, vl.ownBlock = some k → w0.heap.size ≤ k ∧ k ≠ b) (hbl : w0.heap.size ≤ b) (hx : ∀ k, w0.X k → k < w0.heap.size) :
    HiAt w0 W b (newH url) vl (.slice none 0 0) [⟨1, 1, url, ⟨#[]⟩, .slice none 0 0, .slice none 0 0, 0, 0⟩] := by
  refine ⟨hb, hr, RowAt.nil _ _ _, rfl, fun i a c => ?_, fun e => (hlo b e).2 rfl, fun e => by simp [Value.ownBlock] at e, fun k _ e => by simp [Value.ownBlock] at e, fun k hk => ?_, hc, by show 0 < 1; omega, ⟨by show 1 ≤ 100; omega, by show 0 ≤ 1000; omega⟩, (HOk.new url).msgs, fun k hk => Nat.lt_of_lt_of_le (hx k hk) hc.size, fun k hk x => ?_⟩
  · have : i = 0 := by simp only [List.length_singleton] at a; omega
    subst this
    exact ⟨rfl, rfl, rfl, rfl, MsgAt.none _ _, rfl, rfl⟩
  · rcases hk with x | x | x
    · omega
    · exact (hlo k x).1
    · simp [Value.ownBlock] at x
  · have h1 := hx k x
    rcases hk with y | y | y
    · omega
    · have := (hlo k y).1; omega
    · simp [Value.ownBlock] at y

/-- Cells of a row are written. -/
theorem put_cellsN {w : World} {g off n m cap e size i : Nat} {xs zs : List Value} (h : RowAt w e size (.slice (some ⟨g, off, none⟩) m cap) n xs) (hi : i + zs.length ≤ n * size) :
    RowAt (w.setCells g (off + i) zs) e size (.slice (some ⟨g, off, none⟩) m cap) n (xs.take i ++ zs ++ xs.drop (i + zs.length)) := by
  obtain ⟨hl, hr⟩ := h
  rcases hr with ⟨h0, -⟩ | ⟨g', off', cap', cur, hv, hg, h1, h2, h3, h4⟩
  · cases h0
  cases hv
  have hns : n * size ≤ cap * size := Nat.mul_le_mul_right _ h1
  refine ⟨by rw [List.length_append, List.length_append, List.length_take, List.length_drop]; omega, .inr ⟨g, off, cap, _, rfl, setCells_block zs _ hg, h1, h2, by rw [putAt_size]; exact h3, ?_⟩⟩
  have hcl : cur.toList.length = cur.size := Array.length_toList
  rw [putAt_toList _ _ _ (by omega)]
  have hA : (cur.toList.take (off + i)).length = off + i := by rw [List.length_take]; omega
  rw [List.append_assoc, List.drop_append_of_le_length (by omega)]
  have e1 : (cur.toList.take (off + i)).drop off = xs.take i := by
    rw [← h4, List.take_take, Nat.min_eq_left (by omega), List.drop_take]
    congr 1; omega
  have e2 : (cur.toList.drop (off + i + zs.length)).take (n * size - (i + zs.length)) = xs.drop (i + zs.length) := by
    rw [← h4, List.drop_take, List.drop_drop, show off + i + zs.length = off + (i + zs.length) by omega]
  have hB : (xs.take i).length = i := by rw [List.length_take]; omega
  rw [e1, List.append_assoc, show n * size = (xs.take i).length + (n * size - i) by omega, List.take_length_add_append, show n * size - i = zs.length + (n * size - (i + zs.length)) by omega, List.take_length_add_append, e2]
theorem flatE_set (r : EntR) : ∀ (l : List EntR) (i : Nat), i < l.length → (l.flatMap EntR.cells).take (i * 8) ++ r.cells ++ (l.flatMap EntR.cells).drop (i * 8 + 8) = (l.set i r).flatMap EntR.cells
  | [], i, h => by simp at h
  | a :: l, 0, h => by
    have hl : a.cells.length = 8 := EntR.len a
    rw [List.flatMap_cons, Nat.zero_mul, List.take_zero, List.nil_append, Nat.zero_add, List.set_cons_zero, List.flatMap_cons, ← hl, List.drop_left]
  | a :: l, i + 1, h => by
    have hl : a.cells.length = 8 := EntR.len a
    have ih := flatE_set r l i (by simpa using h)
    rw [List.flatMap_cons, List.set_cons_succ, List.flatMap_cons, ← ih, show (i + 1) * 8 = a.cells.length + i * 8 by rw [hl]; omega, List.take_length_add_append, Nat.add_assoc, List.drop_length_add_append]
    simp only [List.append_assoc]
section
variable {w0 : Past} {w w1 w2 : World} {b : Nat} {h : Hist} {vl vs : Value} {rs : List EntR}
/-- The current entry is edited. -/
theorem HiAt.edited (H : HiAt w0 w b h vl vs rs) (r : EntR) (e : Ent) (hc : Chg (fun k => vl.ownBlock = some k) w w1) (row' : RowAt w1 34 8 vl rs.length ((rs.set h.at_ r).flatMap EntR.cells)) (he : EntAt (Off w0 b vl vs) w r e) (hm : MsgOk e.msg) :
    HiAt w0 w1 b { h with list := h.list.set h.at_ e } vl vs (rs.set h.at_ r) := by
  have hll : (rs.set h.at_ r).length = rs.length := List.length_set
  have hlh : (h.list.set h.at_ e).length = h.list.length := List.length_set
  refine ⟨hc.keep H.box H.lb, by rw [hll]; exact row', H.slp.chg hc (fun k hk x => H.ls k x hk), by rw [hll, H.len]; exact hlh.symm, fun i a c => ?_, H.lb, H.sb, H.ls, H.lo, H.chg.trans hc (fun _ _ x => x) (fun k hk x => by have := H.lo k (.inr (.inl x)); omega), by show h.at_ < (h.list.set h.at_ e).length; rw [hlh]; exact H.ok, ⟨by show (h.list.set h.at_ e).length ≤ 100; rw [hlh]; exact H.few.1, H.few.2⟩, fun x hx => ?_, fun k hk => Nat.lt_of_lt_of_le (H.xl k hk) hc.size, H.xm⟩
  · have hh : EntAt (Off w0 b vl vs) w (rs.set h.at_ r)[i] (h.list.set h.at_ e)[i] := by
      by_cases hi : h.at_ = i
      · subst hi
        rw [List.getElem_set_self, List.getElem_set_self]; exact he
      · rw [List.getElem_set_ne hi, List.getElem_set_ne hi]
        exact H.each i _ _
    exact hh.chg hc (fun k _ x => .inl (.inr (.inl x))) (fun _ _ x => x)
  · rcases List.mem_or_eq_of_mem_set hx with a | rfl
    · exact H.msgs x a
    · exact hm
/-- The cells of the current entry in memory. -/
theorem HiAt.entCells (H : HiAt w0 w b h vl vs rs) : ∃ g off cl r pn nn cn pp np cp, vl = .slice (some ⟨g, off, none⟩) rs.length cl ∧ rs.length ≤ cl ∧ rs[h.at_]? = some r ∧ r = ⟨(curE h).id, (curE h).page, (curE h).url, (curE h).title, .slice pn nn cn, .slice pp np cp, (curE h).x, (curE h).y⟩ ∧ EntAt (Off w0 b vl vs) w r (curE h) ∧ (∃ cur, w.heap[g]? = some (.cells cur 34 (0, 0))) ∧
    ∀ j u, r.cells[j]? = some u → j < 8 → w.cell? ⟨g, off + h.at_ * 8 + j, none⟩ = some u := by
  have hal : h.at_ < rs.length := by rw [H.len]; exact H.ok
  have hee : h.list[h.at_]'H.ok = curE h := by have := curE_get h H.ok; rw [List.getElem?_eq_getElem H.ok] at this; exact Option.some.inj this
  have hea := H.each h.at_ hal H.ok
  rw [hee] at hea
  obtain ⟨g, off, cl, rfl, hcl, -⟩ := H.row.addr (by omega)
  obtain ⟨⟨pn, nn, cn, hvn⟩, pp, np, cp, hvp⟩ := hea.msg.vals
  refine ⟨g, off, cl, rs[h.at_], pn, nn, cn, pp, np, cp, rfl, hcl, List.getElem?_eq_getElem hal, ?_, hea, ?_, fun j u hu hj => ?_⟩
  · rw [← hvn, ← hvp, ← hea.id, ← hea.page, ← hea.url, ← hea.title, ← hea.x, ← hea.y]
  · rcases H.row.2 with ⟨hv, -⟩ | ⟨g', off', cap', cur, hv, hg, -⟩
    · cases hv
    · simp only [Value.slice.injEq, Option.some.injEq, Addr.mk.injEq] at hv
      obtain ⟨⟨rfl, -, -⟩, -, -⟩ := hv
      exact ⟨cur, hg⟩
  · rw [Nat.add_assoc]
    exact H.row.cellAt (h.at_ * 8 + j) u (by rw [flat_get _ 8 EntR.len rs h.at_ j hal hj]; exact hu)
end
end Go.Proofs.YtiecgbmeobpomaaDoor
namespace Go.Proofs.YtiecgbmeobpomaaDoor
open Go.RowKit
set_option linter.unusedVariables false
set_option linter.unusedSimpArgs false

/-- A history as a value: its lists are only read, and lie in none of D. -/
structure HvAt (D : Nat → Prop) (w : World) (p q : Option Addr) (c d : Nat) (h : Hist) : Prop where
  ex : ∃ rs : List EntR, rs.length = h.list.length ∧ (∀ i (a : i < rs.length) (c : i < h.list.length), EntAt D w rs[i] h.list[i]) ∧ SeenN D w 8 (.slice p h.list.length c) rs.length (rs.flatMap EntR.cells)
  slp : SeenN D w 1 (.slice q h.sleeping.length d) h.sleeping.length (intC h.sleeping)
def hvC (p q : Option Addr) (c d : Nat) (h : Hist) : Array Value := #[.slice p h.list.length c, .int .i64 (h.at_ : Int), .int .i64 h.next, .int .i64 h.nextPage, .slice q h.sleeping.length d]
theorem HvAt.chg {D D' S : Nat → Prop} {w w' : World} {p q : Option Addr} {c d : Nat} {h : Hist} (H : HvAt D w p q c d h) (hc : Chg S w w') (hS : ∀ k, k < w.heap.size → S k → D k) (hD : ∀ k, k < w.heap.size → D' k → D k) : HvAt D' w' p q c d h := by
  obtain ⟨⟨rs, h1, h2, h3⟩, h4⟩ := H
  exact ⟨⟨rs, h1, fun i a c => (h2 i a c).chg hc hS hD, h3.chg hc hS hD⟩, h4.chg hc hS hD⟩
theorem HvAt.still {D : Nat → Prop} {w w' : World} {p q : Option Addr} {c d : Nat} {h : Hist} (H : HvAt D w p q c d h) (hc : Chg (fun _ => False) w w') : HvAt D w' p q c d h := H.chg hc (fun _ _ x => x.elim) (fun _ _ x => x)
/-- An entry's cells. -/
theorem HvAt.at {D : Nat → Prop} {w : World} {p q : Option Addr} {c d : Nat} {h : Hist} (H : HvAt D w p q c d h) {k : Nat} (hk : k < h.list.length) :
    ∃ g off sn sp nn cn np cp, p = some ⟨g, off, none⟩ ∧ MsgAt D w (.slice sn nn cn) (.slice sp np cp) h.list[k].msg ∧
      w.cell? ⟨g, off + k * 8, none⟩ = some (.int .i64 h.list[k].id) ∧ w.cell? ⟨g, off + k * 8 + 1, none⟩ = some (.int .i64 h.list[k].page) ∧ w.cell? ⟨g, off + k * 8 + 2, none⟩ = some (.string h.list[k].url) ∧ w.cell? ⟨g, off + k * 8 + 3, none⟩ = some (.string h.list[k].title) ∧
      w.cell? ⟨g, off + k * 8 + 4, none⟩ = some (.slice sn nn cn) ∧ w.cell? ⟨g, off + k * 8 + 5, none⟩ = some (.slice sp np cp) ∧ w.cell? ⟨g, off + k * 8 + 6, none⟩ = some (.int .i64 h.list[k].x) ∧ w.cell? ⟨g, off + k * 8 + 7, none⟩ = some (.int .i64 h.list[k].y) := by
  obtain ⟨rs, hrl, hre, hrs⟩ := H.ex
  have hkr : k < rs.length := by rw [hrl]; exact hk
  obtain ⟨g, off, cn', hv1, -, -, hc1⟩ := hrs.at (by omega)
  have hat := hre k hkr hk
  have hg : p = some ⟨g, off, none⟩ := by injection hv1
  obtain ⟨⟨sn, nn, cn, hvn⟩, sp, np, cp, hvp⟩ := hat.msg.vals
  have hcel : ∀ c u, (rs[k]).cells[c]? = some u → c < 8 → w.cell? ⟨g, off + k * 8 + c, none⟩ = some u := fun c u hu hcc => by
    rw [Nat.add_assoc]
    exact hc1 (k * 8 + c) u (by rw [flat_get _ 8 EntR.len rs k c hkr hcc]; exact hu)
  have hrc : rs[k].cells = [.int .i64 h.list[k].id, .int .i64 h.list[k].page, .string h.list[k].url, .string h.list[k].title, .slice sn nn cn, .slice sp np cp, .int .i64 h.list[k].x, .int .i64 h.list[k].y] := by
    unfold EntR.cells
    rw [hat.id, hat.page, hat.url, hat.title, hat.x, hat.y, hvn, hvp]
  rw [hrc] at hcel
  have e0 := hcel 0 _ rfl (by omega)
  rw [Nat.add_zero] at e0
  have hm := hat.msg
  rw [hvn, hvp] at hm
  exact ⟨g, off, sn, sp, nn, cn, np, cp, hg, hm, e0, hcel 1 _ rfl (by omega), hcel 2 _ rfl (by omega), hcel 3 _ rfl (by omega), hcel 4 _ rfl (by omega), hcel 5 _ rfl (by omega), hcel 6 _ rfl (by omega), hcel 7 _ rfl (by omega)⟩
/-- The program's history as a value. -/
theorem HiAt.hv {w0 : Past} {w : World} {b : Nat} {h : Hist} {vl vs : Value} {rs : List EntR} (H : HiAt w0 w b h vl vs rs) : ∃ p q c d, vl = .slice p h.list.length c ∧ vs = .slice q h.sleeping.length d ∧ HvAt (fun _ => False) w p q c d h := by
  obtain ⟨p, c, rfl, -, -⟩ := H.row.slice
  obtain ⟨q, d, rfl, -, -⟩ := H.slp.slice
  refine ⟨p, q, c, d, by rw [H.len], rfl, ⟨⟨rs, H.len, fun i a c => ?_, ?_⟩, SeenN.ofRow H.slp (fun _ _ x => x)⟩⟩
  · exact (H.each i a c).chg (Chg.refl (fun _ => False) w) (fun _ _ x => x.elim) (fun _ _ x => x.elim)
  · rw [← H.len]; exact SeenN.ofRow H.row (fun _ _ x => x)
def HEnc (h : Hist) : Prop := ∀ e ∈ h.list, EncOk e.msg
set_option maxHeartbeats 3200000 in
set_option maxRecDepth 100000 in
/-- knapsackref48.Same. -/
theorem same48_any {D E : Nat → Prop} (w : World) (p1 q1 p2 q2 : Option Addr) (c1 d1 c2 d2 : Nat) (h : Hist) (H1 : HvAt D w p1 q1 c1 d1 h) (H2 : HvAt E w p2 q2 c2 d2 h) (ok : HEnc h) (hl : h.list.length ≤ 100) :
    Calls Tryd.prog 17 #[.agg #[.slice p1 h.list.length c1, .int .i64 (h.at_ : Int), .int .i64 h.next, .int .i64 h.nextPage, .slice q1 h.sleeping.length d1], .agg #[.slice p2 h.list.length c2, .int .i64 (h.at_ : Int), .int .i64 h.next, .int .i64 h.nextPage, .slice q2 h.sleeping.length d2]] w fun e w' => e = .returned (.bool true) ∧ Chg (fun _ => False) w w' := by
  have HC := Lib.hid ((Chg.alloc (fun _ => False) w (.cells #[.slice p1 h.list.length c1, .int .i64 (h.at_ : Int), .int .i64 h.next, .int .i64 h.nextPage, .slice q1 h.sleeping.length d1] 35)).allocR (.cells #[.slice p2 h.list.length c2, .int .i64 (h.at_ : Int), .int .i64 h.next, .int .i64 h.nextPage, .slice q2 h.sleeping.length d2] 35))
  have HB1 := Lib.hid (alloc_old (.cells #[.slice p2 h.list.length c2, .int .i64 (h.at_ : Int), .int .i64 h.next, .int .i64 h.nextPage, .slice q2 h.sleeping.length d2] 35) (alloc_block w (.cells #[.slice p1 h.list.length c1, .int .i64 (h.at_ : Int), .int .i64 h.next, .int .i64 h.nextPage, .slice q1 h.sleeping.length d1] 35)))
  have hb3 := alloc_block (w.alloc (.cells #[.slice p1 h.list.length c1, .int .i64 (h.at_ : Int), .int .i64 h.next, .int .i64 h.nextPage, .slice q1 h.sleeping.length d1] 35)) (.cells #[.slice p2 h.list.length c2, .int .i64 (h.at_ : Int), .int .i64 h.next, .int .i64 h.nextPage, .slice q2 h.sleeping.length d2] 35)
  rw [World.size_alloc] at hb3
  have HB2 := Lib.hid hb3
  have HSI := Lib.hid (fun W (hc : Chg (fun _ => False) w W) => sameInts_any W _ _ h.sleeping (H1.slp.still hc) (H2.slp.still hc))
  have HH1 := Lib.hid H1
  have HH2 := Lib.hid H2
  have HOK := Lib.hid ok
  have hll : (h.list.length : Int) ≤ 100 := by omega
  clear hb3 H1 H2 ok hl
  go_enter Tryd.func17, Tryd.ntmps17
  go_upto_region 1 with fail
  generalize (w.alloc (.cells #[.slice p1 h.list.length c1, .int .i64 (h.at_ : Int), .int .i64 h.next, .int .i64 h.nextPage, .slice q1 h.sleeping.length d1] 35)).alloc (.cells #[.slice p2 h.list.length c2, .int .i64 (h.at_ : Int), .int .i64 h.next, .int .i64 h.nextPage, .slice q2 h.sleeping.length d2] 35) = w4 at *
  generalize w.heap.size + 1 = b3 at *
  generalize w.heap.size = b1 at *
  have g0 := cell_of_block (i := 0) HB1.out rfl
  have g1 := cell_of_block (i := 1) HB1.out rfl
  have g2 := cell_of_block (i := 2) HB1.out rfl
  have g3 := cell_of_block (i := 3) HB1.out rfl
  have g4 := cell_of_block (i := 4) HB1.out rfl
  simp only [List.getElem_toArray, List.getElem_cons_zero, List.getElem_cons_succ] at g0 g1 g2 g3 g4
  have h0 := cell_of_block (i := 0) HB2.out rfl
  have h1 := cell_of_block (i := 1) HB2.out rfl
  have h2 := cell_of_block (i := 2) HB2.out rfl
  have h3 := cell_of_block (i := 3) HB2.out rfl
  have h4 := cell_of_block (i := 4) HB2.out rfl
  simp only [List.getElem_toArray, List.getElem_cons_zero, List.getElem_cons_succ] at h0 h1 h2 h3 h4
  have zl : ((h.list.length : Int) != (h.list.length : Int)) = false := by simp
  have za : ((h.at_ : Int) != (h.at_ : Int)) = false := by simp
  have zn : (h.next != h.next) = false := by simp
  have zg : (h.nextPage != h.nextPage) = false := by simp
  go_upto_region 3 with (go_at_call 37; refine (HSI.out _ HC.out).mono ?_; rintro _ w5 ⟨rfl, hc5⟩; have HC5 := Lib.hid hc5; clear hc5)
  clear g0 g1 g2 g3 g4 h0 h1 h2 h3 h4 zl za zn zg HSI
  go_wp2_with fail
  go_loopw [4, 5] (fun _ i wr => ∃ k : Nat, k ≤ h.list.length ∧ i = .int .i64 k ∧ Hid (Chg (fun _ => False) w4 wr)) (fun _ i _ => h.list.length - (intOf i).toNat)
  case atStart => exact ⟨0, Nat.zero_le _, rfl, HC5⟩
  case round =>
    clear HC5
    obtain ⟨k, hk, rfl, HCR⟩ := hrel
    have g0 := cell_of_block (i := 0) (HCR.out.keep HB1.out (fun x => x)) rfl
    have h0 := cell_of_block (i := 0) (HCR.out.keep HB2.out (fun x => x)) rfl
    simp only [List.getElem_toArray, List.getElem_cons_zero, List.getElem_cons_succ] at g0 h0
    by_cases hlt : k < h.list.length
    · have k0 : (0 : Int) ≤ (k : Int) := by omega
      have k1 : (k : Int) < (h.list.length : Int) := by omega
      have w64 : IntKind.i64.wrap ((k : Int) + 1) = ((k + 1 : Nat) : Int) := IntWalk.i64_in _ (by omega)
      have hcw := HC.out.trans' HCR.out
      obtain ⟨ga, oa, an, ap, nn, cn, np, cp, rfl, hm1, x0, x1, x2, x3, x4, x5, x6, x7⟩ := (HH1.out.still hcw).at hlt
      obtain ⟨gb, ob, bn, bp, ln, kn, lp, kp, rfl, hm2, y0, y1, y2, y3, y4, y5, y6, y7⟩ := (HH2.out.still hcw).at hlt
      have HNX : Hid (k + 1 ≤ h.list.length) := Lib.hid hlt
      have hok := HOK.out _ (List.getElem_mem hlt)
      generalize h.list[k] = e at *
      have HSE := Lib.hid (fun W (hc : Chg (fun _ => False) wr W) => sameEntry_any W e.id e.page e.x e.y e.url e.title an ap bn bp nn cn np cp ln kn lp kp e.msg (hm1.chg hc (fun _ _ x => x.elim) (fun _ _ x => x)) (hm2.chg hc (fun _ _ x => x.elim) (fun _ _ x => x)) hok)
      clear hk hlt hm1 hm2 hok hcw
      go_upto_region 6 with fail
      have mx0 := Later.cell x0
      have mx1 := Later.cell x1
      have mx2 := Later.cell x2
      have mx3 := Later.cell x3
      have mx4 := Later.cell x4
      have mx5 := Later.cell x5
      have mx6 := Later.cell x6
      have mx7 := Later.cell x7
      have my0 := Later.cell y0
      have my1 := Later.cell y1
      have my2 := Later.cell y2
      have my3 := Later.cell y3
      have my4 := Later.cell y4
      have my5 := Later.cell y5
      have my6 := Later.cell y6
      have my7 := Later.cell y7
      have mg := Later.cell g0
      have mh := Later.cell h0
      clear x0 x1 x2 x3 x4 x5 x6 x7 y0 y1 y2 y3 y4 y5 y6 y7 g0 h0
      refine wp_region_later (by kernel_rfl) (by kernel_rfl) ?_
      repeat (go_big_quiet_step ((go_at_call 18; exact Later.call (HSE.out _ (Later.chg _)))))
      refine wpQuiet_nil ?_
      rintro _ ⟨y, rfl⟩
      have HCY := Lib.hid (HCR.out.trans' y.chg)
      generalize y.at_ = wy at *
      clear y mx0 mx1 mx2 mx3 mx4 mx5 mx6 mx7 my0 my1 my2 my3 my4 my5 my6 my7 mg mh
      go_wp2_with fail
      go_roundw
      case rel => exact ⟨k + 1, HNX.out, rfl, HCY⟩
      case measure => have := HNX.out; simp [intOf, w64]; omega
    · have i1 : ¬ (k : Int) < (h.list.length : Int) := by omega
      clear hk hlt
      go_wp2_with fail
      go_ret
      exact ⟨rfl, HC.out.trans' HCR.out⟩
end Go.Proofs.YtiecgbmeobpomaaDoor
