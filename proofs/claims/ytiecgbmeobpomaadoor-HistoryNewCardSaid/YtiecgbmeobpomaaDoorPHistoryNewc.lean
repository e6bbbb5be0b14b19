/-
  History.add.
-/
import Derived.Test.YtiecgbmeobpomaaDoorPHistoryNewb
namespace Go.Proofs.YtiecgbmeobpomaaDoor
open Go.RowKit
set_option linter.unusedVariables false
set_option linter.unusedSimpArgs false

theorem elem_ent : Elem Tryd.prog 34 8 112 := elem_of (by kernel_rfl)
/-- The list behind the cut and the append, and cut to 50 entries. -/
def addL (h : Hist) (e : Ent) : List Ent :=
  let l := h.list.take (h.at_ + 1) ++ [{ e with id := h.next }]
  if 50 < l.length then l.drop 1 else l
def addM (h : Hist) (e : Ent) : Hist := { h with list := addL h e, at_ := (addL h e).length - 1, next := h.next + 1 }
set_option maxHeartbeats 6400000 in
set_option maxRecDepth 100000 in
theorem add_any (w0 : Past) (w : World) (b : Nat) (h : Hist) (vl vs : Value) (rs : List EntR) (H : HiAt w0 w b h vl vs rs) (D : Nat → Prop) (e : Ent) (vn vp : Value) (hD : ∀ k, Mut b vl vs k → D k) (hm : MsgAt D w vn vp e.msg) (hmo : MsgOk e.msg) (hl60 : h.list.length ≤ 60) (hnx : -1000000000 ≤ h.next ∧ h.next ≤ 1000000000) :
    Calls Tryd.prog 43 #[.pointer (some ⟨b, 0, none⟩), .agg (EntC e.id e.page e.url e.title vn vp e.x e.y)] w fun z w' => z = .returned (.tuple #[]) ∧ OpX w0 w b (Mut b vl vs) (addM h e) w' := by
  unfold EntC
  obtain ⟨⟨pn, nn, cn, rfl⟩, pp, np, cp, rfl⟩ := hm.vals
  have HMS := Lib.hid (fun W (hc : Chg (fun k => Mut b vl vs k ∨ w.heap.size ≤ k) w W) => hm.chg (D' := D) hc (fun k hk x => x.elim (hD k) (fun y => by omega)) (fun _ _ x => x))
  have hbl : b < w.heap.size := (Array.getElem?_eq_some_iff.1 H.box).1
  have hca := Chg.alloc (fun _ => False) w (.cells #[.int .i64 e.id, .int .i64 e.page, .string e.url, .string e.title, .slice pn nn cn, .slice pp np cp, .int .i64 e.x, .int .i64 e.y] 34)
  have hb3 := alloc_block w (.cells #[.int .i64 e.id, .int .i64 e.page, .string e.url, .string e.title, .slice pn nn cn, .slice pp np cp, .int .i64 e.x, .int .i64 e.y] 34)
  have HCA := Lib.hid hca
  have HH0 := Lib.hid H
  have d2' := hca.cell (cell_of_block (i := 2) H.box rfl)
  simp only [List.getElem_toArray, List.getElem_cons_zero, List.getElem_cons_succ] at d2'
  obtain ⟨a, cl, rfl, -, -⟩ := H.row.slice
  have HB3 := Lib.hid hb3
  have HNX := Lib.hid hnx
  have HL60 := Lib.hid hl60
  clear hca hb3 hm H hnx hD hl60
  go_enter Tryd.func43, Tryd.ntmps43
  go_upto_region 1 with fail
  generalize w.alloc (.cells #[.int .i64 e.id, .int .i64 e.page, .string e.url, .string e.title, .slice pn nn cn, .slice pp np cp, .int .i64 e.x, .int .i64 e.y] 34) = w1 at *
  generalize hb3e : w.heap.size = b3 at HB3 HMS ⊢
  have hb3n : b3 ≠ b := by omega
  have f0 := frozen_of_block (i := 0) HB3.out
  have g0 := cell_of_block (i := 0) HB3.out rfl
  simp only [List.getElem_toArray, List.getElem_cons_zero, List.getElem_cons_succ] at g0
  go_upto_region 2 with fail
  have hb3s := setCell_block (i := 0) (.int .i64 h.next) HB3.out
  have hcf : Chg (fun _ => False) w (w1.setCell ⟨b3, 0, none⟩ (.int .i64 h.next)) := HCA.out.trans (Chg.setCell w1 ⟨b3, 0, none⟩ _) (fun _ _ x => x) (fun k hk e => by have : k = b3 := e; omega)
  clear d2' f0 g0
  generalize w1.setCell ⟨b3, 0, none⟩ (.int .i64 h.next) = w2 at *
  have HB3S := Lib.hid hb3s
  have hh2 := HH0.out.still hcf
  have d2 := cell_of_block (i := 2) hh2.box rfl
  have f2 := frozen_of_block (i := 2) hh2.box
  simp only [List.getElem_toArray, List.getElem_cons_zero, List.getElem_cons_succ] at d2
  have hnx := HNX.out
  have wn : IntKind.i64.wrap (h.next + 1) = h.next + 1 := IntWalk.i64_in _ (by omega)
  have wn2 : wrap64 (h.next + 1) = h.next + 1 := IntWalk.wrap64_in _ (by omega)
  go_upto_region 3 with fail
  have hb2s := setCell_block (i := 2) (.int .i64 (h.next + 1)) hh2.box
  have hc23 : Chg (fun k => k = b) w2 (w2.setCell ⟨b, 2, none⟩ (.int .i64 (h.next + 1))) := Chg.setCell w2 ⟨b, 2, none⟩ _
  have hh3 := hh2.nums hc23 h.at_ (h.next + 1) h.nextPage (by simpa using hb2s) hh2.ok
  have HC03 := Lib.hid (show Chg (fun k => Mut b (.slice a rs.length cl) vs k ∨ b3 ≤ k) w (w2.setCell ⟨b, 2, none⟩ (.int .i64 (h.next + 1))) from hcf.trans hc23 (fun _ _ x => x.elim) (fun k _ e => .inl (.inl e)))
  have HB33 := Lib.hid (hc23.keep HB3S.out hb3n)
  clear d2 f2 hb2s hb3s hh2 hcf hc23 hnx
  generalize w2.setCell ⟨b, 2, none⟩ (.int .i64 (h.next + 1)) = w4 at *
  have HH3 := Lib.hid hh3
  have hbx := hh3.box
  have e0 := cell_of_block (i := 0) hbx rfl
  have e1 := cell_of_block (i := 1) hbx rfl
  simp only [List.getElem_toArray, List.getElem_cons_zero, List.getElem_cons_succ] at e0 e1
  have hal : h.at_ < rs.length := by rw [hh3.len]; exact hh3.ok
  have hn100 : rs.length ≤ 100 := by rw [hh3.len]; exact hh3.few.1
  have HAL := Lib.hid (show h.at_ + 1 ≤ rs.length from hal)
  have HDE := Lib.hid (fun W (hc : Chg (fun _ => False) w4 W) => delE_any W (.slice a rs.length cl) rs.length (h.at_ + 1) rs.length _ (hh3.row.chg hc (fun _ _ x => x)) (ent_ones hh3.len hh3.each) hal (Nat.le_refl _) (by omega))
  rw [flatE_take, show rs.length * 8 = (rs.flatMap EntR.cells).length from hh3.row.1.symm, List.drop_length, List.append_nil, show rs.length - (rs.length - (h.at_ + 1)) = h.at_ + 1 by omega, show ((h.at_ + 1 : Nat) : Int) = (h.at_ : Int) + 1 from rfl] at HDE
  have HS0 := Lib.hid (show w4.cell? ⟨b, 0, none⟩ = some (.slice a rs.length cl) ∧ w4.cell? ⟨b, 1, none⟩ = some (.int .i64 (h.at_ : Int)) from ⟨e0, e1⟩)
  have FRZ : Hid (∀ wD W, Chg (fun _ => False) w4 wD → Chg (fun j => (Value.slice a rs.length cl).ownBlock = some j) wD W → W.frozen? ⟨b, 0, none⟩ = false) := Lib.hid (fun wD W h1 h2 => frozen_of_block (h2.keep (h1.keep hbx (fun x => x)) hh3.lb))
  have CEL : Hid (∀ wD W, Chg (fun _ => False) w4 wD → Chg (fun j => (Value.slice a rs.length cl).ownBlock = some j) wD W → W.cell? ⟨b, 0, none⟩ = some (.slice a rs.length cl) ∧ W.cell? ⟨b, 1, none⟩ = some (.int .i64 (h.at_ : Int))) := Lib.hid (fun wD W h1 h2 => ⟨h2.cellS (h1.cell e0) hh3.lb, h2.cellS (h1.cell e1) hh3.lb⟩)
  have a0 : (0 : Int) ≤ (h.at_ : Int) := by omega
  have wa : IntKind.i64.wrap ((h.at_ : Int) + 1) = ((h.at_ + 1 : Nat) : Int) := IntWalk.i64_in _ (by omega)
  have wa2 : wrap64 ((h.at_ : Int) + 1) = ((h.at_ + 1 : Nat) : Int) := IntWalk.wrap64_in _ (by omega)
  have q1 : ¬ (((h.at_ + 1 : Nat) : Int) < 0) := by omega
  have q2 : ¬ ((h.at_ : Int) + 1 < 0) := by omega
  have q3 : ¬ ((rs.length : Int) < ((h.at_ + 1 : Nat) : Int)) := by omega
  have q4 : ¬ ((rs.length : Int) < (h.at_ : Int) + 1) := by omega
  clear hh3 hbx e0 e1 hal hn100
  refine wp_region_held_split 25 (fun w' => w'.cell? ⟨b, 0, none⟩ = some (.slice a rs.length cl) ∧ w'.cell? ⟨b, 1, none⟩ = some (.int .i64 (h.at_ : Int))) (by kernel_rfl) (by kernel_rfl) ?_ (fun hHeld => ?_)
  · (first | exact HS0.out | exact HKS.out _ (Chg.refl _ _) | exact zc)
  simp only [List.take_succ_cons, List.take_zero]
  have HKS : Hid (∀ W, Chg (fun _ => False) w4.drew W → W.cell? ⟨b, 0, none⟩ = some (.slice a rs.length cl) ∧ W.cell? ⟨b, 1, none⟩ = some (.int .i64 (h.at_ : Int))) := Lib.hid (fun W hc => ⟨hc.cell HS0.out.1, hc.cell HS0.out.2⟩)
  have HWD : Hid (Chg (fun _ => False) w4 w4.drew) := Lib.hid (Chg.refl _ w4).drewR
  generalize w4.drew = wD at *
  refine wpAnyH_take (i := 0) (v := ?_) rfl (by kernel_rfl) (by kernel_rfl) (by kernel_rfl) (fun _ _ _ h => h) (Or.inl ⟨by rfl, ?_⟩) (by assumption) ?_
  rotate_left
  · (intro wq hSw; (try dsimp only at hSw); go_simp; (try with_reducible rfl))
  simp only [Act.put, List.getElem_toArray, List.getElem_cons_zero, List.getElem_cons_succ, List.setIfInBounds_toArray, List.set_cons_zero, List.set_cons_succ]
  refine wpAnyH_take (i := 1) (v := ?_) rfl (by kernel_rfl) (by kernel_rfl) (by kernel_rfl) (fun _ _ _ h => h) (Or.inl ⟨by rfl, ?_⟩) (by assumption) ?_
  rotate_left
  · (intro wq hSw; (try dsimp only at hSw); go_simp; (try with_reducible rfl))
  simp only [Act.put, List.getElem_toArray, List.getElem_cons_zero, List.getElem_cons_succ, List.setIfInBounds_toArray, List.set_cons_zero, List.set_cons_succ]
  refine wpAnyH_take (i := 2) (v := ?_) rfl (by kernel_rfl) (by kernel_rfl) (by kernel_rfl) (fun _ _ _ h => h) (Or.inl ⟨by rfl, ?_⟩) (by assumption) ?_
  rotate_left
  · (intro wq hSw; (try dsimp only at hSw); go_simp; (try with_reducible rfl))
  simp only [Act.put, List.getElem_toArray, List.getElem_cons_zero, List.getElem_cons_succ, List.setIfInBounds_toArray, List.set_cons_zero, List.set_cons_succ]
  refine wpAnyH_take (i := 3) (v := ?_) rfl (by kernel_rfl) (by kernel_rfl) (by kernel_rfl) (fun _ _ _ h => h) (Or.inl ⟨by rfl, ?_⟩) (by assumption) ?_
  rotate_left
  · (intro wq hSw; (try dsimp only at hSw); go_simp; (try with_reducible rfl))
  simp only [Act.put, List.getElem_toArray, List.getElem_cons_zero, List.getElem_cons_succ, List.setIfInBounds_toArray, List.set_cons_zero, List.set_cons_succ]
  refine wpAnyH_take (i := 4) (v := ?_) rfl (by kernel_rfl) (by kernel_rfl) (by kernel_rfl) (fun _ _ _ h => h) (Or.inl ⟨by rfl, ?_⟩) (by assumption) ?_
  rotate_left
  · (intro wq hSw; (try dsimp only at hSw); go_simp; (try with_reducible rfl))
  simp only [Act.put, List.getElem_toArray, List.getElem_cons_zero, List.getElem_cons_succ, List.setIfInBounds_toArray, List.set_cons_zero, List.set_cons_succ]
  refine wpAnyH_take (i := 5) (v := ?_) rfl (by kernel_rfl) (by kernel_rfl) (by kernel_rfl) (fun _ _ _ h => h) (Or.inl ⟨by rfl, ?_⟩) (by assumption) ?_
  rotate_left
  · (intro wq hSw; (try dsimp only at hSw); go_simp; (try with_reducible rfl))
  simp only [Act.put, List.getElem_toArray, List.getElem_cons_zero, List.getElem_cons_succ, List.setIfInBounds_toArray, List.set_cons_zero, List.set_cons_succ]
  refine wpAnyH_take (i := 6) (v := ?_) rfl (by kernel_rfl) (by kernel_rfl) (by kernel_rfl) (fun _ _ _ h => h) (Or.inl ⟨by rfl, ?_⟩) (by assumption) ?_
  rotate_left
  · (intro wq hSw; (try dsimp only at hSw); go_simp; (try with_reducible rfl))
  simp only [Act.put, List.getElem_toArray, List.getElem_cons_zero, List.getElem_cons_succ, List.setIfInBounds_toArray, List.set_cons_zero, List.set_cons_succ]
  refine wpAnyH_take (i := 7) (v := ?_) rfl (by kernel_rfl) (by kernel_rfl) (by kernel_rfl) (fun _ _ _ h => h) (Or.inl ⟨by rfl, ?_⟩) (by assumption) ?_
  rotate_left
  · (intro wq hSw; (try dsimp only at hSw); go_simp; (try with_reducible rfl))
  simp only [Act.put, List.getElem_toArray, List.getElem_cons_zero, List.getElem_cons_succ, List.setIfInBounds_toArray, List.set_cons_zero, List.set_cons_succ]
  refine wpAnyH_take (i := 8) (v := ?_) rfl (by kernel_rfl) (by kernel_rfl) (by kernel_rfl) (fun _ _ _ h => h) (Or.inl ⟨by rfl, ?_⟩) (by assumption) ?_
  rotate_left
  · (intro wq hSw; (try dsimp only at hSw); go_simp; (try with_reducible rfl))
  simp only [Act.put, List.getElem_toArray, List.getElem_cons_zero, List.getElem_cons_succ, List.setIfInBounds_toArray, List.set_cons_zero, List.set_cons_succ]
  refine wpAnyH_take (i := 9) (v := ?_) rfl (by kernel_rfl) (by kernel_rfl) (by kernel_rfl) (fun _ _ _ h => h) (Or.inl ⟨by rfl, ?_⟩) (by assumption) ?_
  rotate_left
  · (intro wq hSw; (try dsimp only at hSw); go_simp; (try with_reducible rfl))
  simp only [Act.put, List.getElem_toArray, List.getElem_cons_zero, List.getElem_cons_succ, List.setIfInBounds_toArray, List.set_cons_zero, List.set_cons_succ]
  refine wpAnyH_take (i := 11) (v := ?_) rfl (by kernel_rfl) (by kernel_rfl) (by kernel_rfl) (fun _ _ _ h => h) (Or.inl ⟨by rfl, ?_⟩) (by assumption) ?_
  rotate_left
  · (intro wq hSw; (try dsimp only at hSw); go_simp; (try with_reducible rfl))
  simp only [Act.put, List.getElem_toArray, List.getElem_cons_zero, List.getElem_cons_succ, List.setIfInBounds_toArray, List.set_cons_zero, List.set_cons_succ]
  refine wpAnyH_take (i := 12) (v := ?_) rfl (by kernel_rfl) (by kernel_rfl) (by kernel_rfl) (fun _ _ _ h => h) (Or.inl ⟨by rfl, ?_⟩) (by assumption) ?_
  rotate_left
  · (intro wq hSw; (try dsimp only at hSw); go_simp; (try with_reducible rfl))
  simp only [Act.put, List.getElem_toArray, List.getElem_cons_zero, List.getElem_cons_succ, List.setIfInBounds_toArray, List.set_cons_zero, List.set_cons_succ]
  refine wpAnyH_take (i := 13) (v := ?_) rfl (by kernel_rfl) (by kernel_rfl) (by kernel_rfl) (fun _ _ _ h => h) (Or.inl ⟨by rfl, ?_⟩) (by assumption) ?_
  rotate_left
  · (intro wq hSw; (try dsimp only at hSw); go_simp; (try with_reducible rfl))
  simp only [Act.put, List.getElem_toArray, List.getElem_cons_zero, List.getElem_cons_succ, List.setIfInBounds_toArray, List.set_cons_zero, List.set_cons_succ]
  refine wpAnyH_take (i := 14) (v := ?_) rfl (by kernel_rfl) (by kernel_rfl) (by kernel_rfl) (fun _ _ _ h => h) (Or.inl ⟨by rfl, ?_⟩) (by assumption) ?_
  rotate_left
  · (intro wq hSw; (try dsimp only at hSw); go_simp; (try with_reducible rfl))
  simp only [Act.put, List.getElem_toArray, List.getElem_cons_zero, List.getElem_cons_succ, List.setIfInBounds_toArray, List.set_cons_zero, List.set_cons_succ]
  refine wpAnyH_take (i := 15) (v := ?_) rfl (by kernel_rfl) (by kernel_rfl) (by kernel_rfl) (fun _ _ _ h => h) (Or.inl ⟨by rfl, ?_⟩) (by assumption) ?_
  rotate_left
  · (intro wq hSw; (try dsimp only at hSw); go_simp; (try with_reducible rfl))
  simp only [Act.put, List.getElem_toArray, List.getElem_cons_zero, List.getElem_cons_succ, List.setIfInBounds_toArray, List.set_cons_zero, List.set_cons_succ]
  refine wpAnyH_take (i := 17) (v := ?_) rfl (by kernel_rfl) (by kernel_rfl) (by kernel_rfl) (fun _ _ _ h => h) (Or.inl ⟨by rfl, ?_⟩) (by assumption) ?_
  rotate_left
  · (intro wq hSw; (try dsimp only at hSw); go_simp; (try with_reducible rfl))
  simp only [Act.put, List.getElem_toArray, List.getElem_cons_zero, List.getElem_cons_succ, List.setIfInBounds_toArray, List.set_cons_zero, List.set_cons_succ]
  refine wpAnyH_take (i := 18) (v := ?_) rfl (by kernel_rfl) (by kernel_rfl) (by kernel_rfl) (fun _ _ _ h => h) (Or.inl ⟨by rfl, ?_⟩) (by assumption) ?_
  rotate_left
  · (intro wq hSw; (try dsimp only at hSw); go_simp; (try with_reducible rfl))
  simp only [Act.put, List.getElem_toArray, List.getElem_cons_zero, List.getElem_cons_succ, List.setIfInBounds_toArray, List.set_cons_zero, List.set_cons_succ]
  refine wpAnyH_take (i := 19) (v := ?_) rfl (by kernel_rfl) (by kernel_rfl) (by kernel_rfl) (fun _ _ _ h => h) (Or.inl ⟨by rfl, ?_⟩) (by assumption) ?_
  rotate_left
  · (intro wq hSw; (try dsimp only at hSw); go_simp; (try with_reducible rfl))
  simp only [Act.put, List.getElem_toArray, List.getElem_cons_zero, List.getElem_cons_succ, List.setIfInBounds_toArray, List.set_cons_zero, List.set_cons_succ]
  refine wpAnyH_take (i := 20) (v := ?_) rfl (by kernel_rfl) (by kernel_rfl) (by kernel_rfl) (fun _ _ _ h => h) (Or.inl ⟨by rfl, ?_⟩) (by assumption) ?_
  rotate_left
  · (intro wq hSw; (try dsimp only at hSw); go_simp; (try with_reducible rfl))
  simp only [Act.put, List.getElem_toArray, List.getElem_cons_zero, List.getElem_cons_succ, List.setIfInBounds_toArray, List.set_cons_zero, List.set_cons_succ]
  refine wpAnyH_take (i := 21) (v := ?_) rfl (by kernel_rfl) (by kernel_rfl) (by kernel_rfl) (fun _ _ _ h => h) (Or.inl ⟨by rfl, ?_⟩) (by assumption) ?_
  rotate_left
  · (intro wq hSw; (try dsimp only at hSw); go_simp; (try with_reducible rfl))
  simp only [Act.put, List.getElem_toArray, List.getElem_cons_zero, List.getElem_cons_succ, List.setIfInBounds_toArray, List.set_cons_zero, List.set_cons_succ]
  refine wpAnyH_ready (rs := [10]) (by kernel_rfl) (by simp) ?_
  refine AllReadyH.cons (by simp only [List.getElem?_toArray, List.getElem?_cons_succ, List.getElem?_cons_zero]; rfl) (fun K hK => ?_) AllReadyH.nil
  go_simp
  refine hK.out _ _ ?_ (fun hHeld => ?_)
  · (first | exact HS0.out | exact HKS.out _ (Chg.refl _ _) | exact zc)
  clear hK K
  (try simp only [Act.put, List.getElem_toArray, List.getElem_cons_zero, List.getElem_cons_succ, List.setIfInBounds_toArray, List.set_cons_zero, List.set_cons_succ])
  refine wpAnyH_ready (rs := [16]) (by kernel_rfl) (by simp) ?_
  refine AllReadyH.cons (by simp only [List.getElem?_toArray, List.getElem?_cons_succ, List.getElem?_cons_zero]; rfl) (fun K hK => ?_) AllReadyH.nil
  go_simp
  refine hK.out _ _ ?_ (fun hHeld => ?_)
  · (first | exact HS0.out | exact HKS.out _ (Chg.refl _ _) | exact zc)
  clear hK K
  (try simp only [Act.put, List.getElem_toArray, List.getElem_cons_zero, List.getElem_cons_succ, List.setIfInBounds_toArray, List.set_cons_zero, List.set_cons_succ])
  refine wpAnyH_ready (rs := [22]) (by kernel_rfl) (by simp) ?_
  refine AllReadyH.cons (by simp only [List.getElem?_toArray, List.getElem?_cons_succ, List.getElem?_cons_zero]; rfl) (fun K hK => ?_) AllReadyH.nil
  (go_simp; go_at_call 53; refine (HDE.out _ HWD.out).mono ?_; rintro _ w5 ⟨v5, rfl, hrow5, hch5, hold5⟩; obtain ⟨a5, c5_, rfl, -, -⟩ := hrow5.slice; have zf := FRZ.out _ _ HWD.out hch5; have zc := CEL.out _ _ HWD.out hch5; go_simp)
  refine hK.out _ _ ?_ (fun hHeld => ?_)
  · (first | exact HS0.out | exact HKS.out _ (Chg.refl _ _) | exact zc)
  clear hK K
  (try simp only [Act.put, List.getElem_toArray, List.getElem_cons_zero, List.getElem_cons_succ, List.setIfInBounds_toArray, List.set_cons_zero, List.set_cons_succ])
  refine wpAnyH_take (i := 23) (v := ?_) rfl (by kernel_rfl) (by kernel_rfl) (by kernel_rfl) (fun _ _ _ h => h) (Or.inl ⟨by rfl, ?_⟩) (by assumption) ?_
  rotate_left
  · (intro wq hSw; (try dsimp only at hSw); go_simp; (try with_reducible rfl))
  simp only [Act.put, List.getElem_toArray, List.getElem_cons_zero, List.getElem_cons_succ, List.setIfInBounds_toArray, List.set_cons_zero, List.set_cons_succ]
  refine wpAnyH_take (i := 24) (v := ?_) rfl (by kernel_rfl) (by kernel_rfl) (by kernel_rfl) (fun _ _ _ h => h) (Or.inl ⟨by rfl, ?_⟩) (by assumption) ?_
  rotate_left
  · (intro wq hSw; (try dsimp only at hSw); go_simp; (try with_reducible rfl))
  simp only [Act.put, List.getElem_toArray, List.getElem_cons_zero, List.getElem_cons_succ, List.setIfInBounds_toArray, List.set_cons_zero, List.set_cons_succ]
  refine wpAnyH_done (by kernel_rfl) ?_ _
  change wpList _ _ _ _ _ _
  simp only [List.drop_succ_cons, List.drop_zero]
  have zc0 := zc.1
  go_upto_region 4 with fail
  have hlt1 : (rs.take (h.at_ + 1)).length = h.at_ + 1 := by rw [List.length_take]; have := HAL.out; omega
  have hlt2 : (h.list.take (h.at_ + 1)).length = h.at_ + 1 := by rw [List.length_take]; have := HH3.out.len; have := HAL.out; have : rs.length = h.list.length := HH3.out.len; omega
  have hh6 := (HH3.out.still HWD.out).relist (rs' := rs.take (h.at_ + 1)) (h.list.take (h.at_ + 1)) hch5 (by rw [hlt1]; exact hrow5) (fun k hk => .inl (hold5 k hk)) (by rw [hlt1, hlt2]) (fun i x y => by
    rw [List.getElem_take, List.getElem_take]
    exact (HH3.out.still HWD.out).each i _ _) (by rw [hlt2]; exact Nat.lt_succ_self _) (by rw [hlt2]; have := HH3.out.few.1; have := HH3.out.ok; show h.at_ + 1 ≤ 100; have h1 : h.at_ < h.list.length := HH3.out.ok; have h2 : h.list.length ≤ 100 := HH3.out.few.1; omega) (fun z hz => HH3.out.msgs z (List.mem_of_mem_take hz))
  have HH6 := Lib.hid hh6
  have hr6 := hh6.row
  rw [hlt1] at hr6
  have HR6 := Lib.hid hr6
  clear hr6
  have HC36 := Lib.hid (show Chg (fun k => Mut b (.slice a rs.length cl) vs k ∨ b3 ≤ k) w4 (w5.setCell ⟨b, 0, none⟩ (.slice a5 (h.at_ + 1) c5_)) from (HWD.out.trans hch5 (fun _ _ x => x.elim) (fun k _ x => .inl (.inr (.inl x)))).trans (Chg.setCell w5 ⟨b, 0, none⟩ _) (fun _ _ x => x) (fun k _ x => .inl (.inl x)))
  have HB36 := Lib.hid ((Chg.setCell w5 ⟨b, 0, none⟩ (.slice a5 (h.at_ + 1) c5_)).keep (hch5.keep (HWD.out.keep HB33.out (fun x => x)) (fun x => by
    have h1 := HH0.out.row.lt b3 x
    omega)) (fun x => hb3n x))
  have HOLD5 := Lib.hid (show ∀ k, (Value.slice a5 (h.at_ + 1) c5_).ownBlock = some k → (Value.slice a rs.length cl).ownBlock = some k ∨ False from fun k hk => .inl (hold5 k hk))
  clear hh6 hrow5 hch5 hold5 zc zf zc0 hHeld HKS HWD HDE FRZ CEL HS0
  generalize w5.setCell ⟨b, 0, none⟩ (.slice a5 (h.at_ + 1) c5_) = w6 at *
  have hbx := HH6.out.box
  have e0 := cell_of_block (i := 0) hbx rfl
  simp only [List.getElem_toArray, List.getElem_cons_zero, List.getElem_cons_succ] at e0
  have hb36 := HB36.out
  have HS4 := Lib.hid (show w6.cell? ⟨b, 0, none⟩ = some (.slice a5 (h.at_ + 1) c5_) ∧ w6.cell? ⟨b3, 0, none⟩ = some (.int .i64 h.next) ∧ w6.cell? ⟨b3, 1, none⟩ = some (.int .i64 e.page) ∧ w6.cell? ⟨b3, 2, none⟩ = some (.string e.url) ∧ w6.cell? ⟨b3, 3, none⟩ = some (.string e.title) ∧ w6.cell? ⟨b3, 4, none⟩ = some (.slice pn nn cn) ∧ w6.cell? ⟨b3, 5, none⟩ = some (.slice pp np cp) ∧ w6.cell? ⟨b3, 6, none⟩ = some (.int .i64 e.x) ∧ w6.cell? ⟨b3, 7, none⟩ = some (.int .i64 e.y) from ⟨e0, cell_of_block (i := 0) hb36 rfl, cell_of_block (i := 1) hb36 rfl, cell_of_block (i := 2) hb36 rfl, cell_of_block (i := 3) hb36 rfl, cell_of_block (i := 4) hb36 rfl, cell_of_block (i := 5) hb36 rfl, cell_of_block (i := 6) hb36 rfl, cell_of_block (i := 7) hb36 rfl⟩)
  have HB3N : Hid (¬ (Value.slice a5 (h.at_ + 1) c5_).ownBlock = some b3) := Lib.hid (fun x => by
    rcases HOLD5.out b3 x with y | y
    · have h1 := HH0.out.row.lt b3 y; omega
    · exact y)
  have HN1 : Hid (h.at_ + 1 ≤ 100) := Lib.hid (by have := HH6.out.few.1; rw [hlt2] at this; exact this)
  have HCP := Lib.hid (fun W (hc : Chg (fun _ => False) w6 W) => copied_any W h.next e.page e.x e.y e.url e.title (.slice pn nn cn) (.slice pp np cp) e.msg (HMS.out W ((HC03.out.trans HC36.out (fun _ _ x => x) (fun _ _ x => x)).trans hc (fun _ _ x => x) (fun _ _ x => x.elim))) hmo)
  unfold EntC at HCP
  have FRZ4 : Hid (∀ wD W, Chg (fun _ => False) w6 wD → Chg (fun j => (Value.slice a5 (h.at_ + 1) c5_).ownBlock = some j) wD W → W.frozen? ⟨b, 0, none⟩ = false) := Lib.hid (fun wD W h1 h2 => frozen_of_block (h2.keep (h1.keep hbx (fun x => x)) HH6.out.lb))
  have CEL4 : Hid (∀ wD W, Chg (fun _ => False) w6 wD → Chg (fun j => (Value.slice a5 (h.at_ + 1) c5_).ownBlock = some j) wD W → W.cell? ⟨b, 0, none⟩ = some (.slice a5 (h.at_ + 1) c5_) ∧ W.cell? ⟨b3, 0, none⟩ = some (.int .i64 h.next) ∧ W.cell? ⟨b3, 1, none⟩ = some (.int .i64 e.page) ∧ W.cell? ⟨b3, 2, none⟩ = some (.string e.url) ∧ W.cell? ⟨b3, 3, none⟩ = some (.string e.title) ∧ W.cell? ⟨b3, 4, none⟩ = some (.slice pn nn cn) ∧ W.cell? ⟨b3, 5, none⟩ = some (.slice pp np cp) ∧ W.cell? ⟨b3, 6, none⟩ = some (.int .i64 e.x) ∧ W.cell? ⟨b3, 7, none⟩ = some (.int .i64 e.y)) := Lib.hid (fun wD W h1 h2 => ⟨h2.cellS (h1.cell e0) HH6.out.lb, h2.cellS (h1.cell (cell_of_block (i := 0) hb36 rfl)) HB3N.out, h2.cellS (h1.cell (cell_of_block (i := 1) hb36 rfl)) HB3N.out, h2.cellS (h1.cell (cell_of_block (i := 2) hb36 rfl)) HB3N.out, h2.cellS (h1.cell (cell_of_block (i := 3) hb36 rfl)) HB3N.out, h2.cellS (h1.cell (cell_of_block (i := 4) hb36 rfl)) HB3N.out, h2.cellS (h1.cell (cell_of_block (i := 5) hb36 rfl)) HB3N.out, h2.cellS (h1.cell (cell_of_block (i := 6) hb36 rfl)) HB3N.out, h2.cellS (h1.cell (cell_of_block (i := 7) hb36 rfl)) HB3N.out⟩)
  clear hbx e0 hb36
  refine wp_region_held_split 11 (fun w' => w'.cell? ⟨b, 0, none⟩ = some (.slice a5 (h.at_ + 1) c5_) ∧ w'.cell? ⟨b3, 0, none⟩ = some (.int .i64 h.next) ∧ w'.cell? ⟨b3, 1, none⟩ = some (.int .i64 e.page) ∧ w'.cell? ⟨b3, 2, none⟩ = some (.string e.url) ∧ w'.cell? ⟨b3, 3, none⟩ = some (.string e.title) ∧ w'.cell? ⟨b3, 4, none⟩ = some (.slice pn nn cn) ∧ w'.cell? ⟨b3, 5, none⟩ = some (.slice pp np cp) ∧ w'.cell? ⟨b3, 6, none⟩ = some (.int .i64 e.x) ∧ w'.cell? ⟨b3, 7, none⟩ = some (.int .i64 e.y)) (by kernel_rfl) (by kernel_rfl) ?_ (fun hHeld => ?_)
  · (first | exact HS4.out | exact zc | exact HKS.out _ (Chg.refl _ _) | exact HKS.out _ (HCD.out.allocR _))
  simp only [List.take_succ_cons, List.take_zero]
  have HKS : Hid (∀ W, Chg (fun _ => False) w6.drew W → W.cell? ⟨b, 0, none⟩ = some (.slice a5 (h.at_ + 1) c5_) ∧ W.cell? ⟨b3, 0, none⟩ = some (.int .i64 h.next) ∧ W.cell? ⟨b3, 1, none⟩ = some (.int .i64 e.page) ∧ W.cell? ⟨b3, 2, none⟩ = some (.string e.url) ∧ W.cell? ⟨b3, 3, none⟩ = some (.string e.title) ∧ W.cell? ⟨b3, 4, none⟩ = some (.slice pn nn cn) ∧ W.cell? ⟨b3, 5, none⟩ = some (.slice pp np cp) ∧ W.cell? ⟨b3, 6, none⟩ = some (.int .i64 e.x) ∧ W.cell? ⟨b3, 7, none⟩ = some (.int .i64 e.y)) := Lib.hid (fun W hc => ⟨hc.cell HS4.out.1, hc.cell HS4.out.2.1, hc.cell HS4.out.2.2.1, hc.cell HS4.out.2.2.2.1, hc.cell HS4.out.2.2.2.2.1, hc.cell HS4.out.2.2.2.2.2.1, hc.cell HS4.out.2.2.2.2.2.2.1, hc.cell HS4.out.2.2.2.2.2.2.2.1, hc.cell HS4.out.2.2.2.2.2.2.2.2⟩)
  have HWD : Hid (Chg (fun _ => False) w6 w6.drew) := Lib.hid (Chg.refl _ w6).drewR
  generalize w6.drew = wD at *
  refine wpAnyH_take (i := 0) (v := ?_) rfl (by kernel_rfl) (by kernel_rfl) (by kernel_rfl) (fun _ _ _ h => h) (Or.inl ⟨by rfl, ?_⟩) (by assumption) ?_
  rotate_left
  · (intro wq hSw; (try dsimp only at hSw); go_simp; (try with_reducible rfl))
  simp only [Act.put, List.getElem_toArray, List.getElem_cons_zero, List.getElem_cons_succ, List.setIfInBounds_toArray, List.set_cons_zero, List.set_cons_succ]
  refine wpAnyH_take (i := 1) (v := ?_) rfl (by kernel_rfl) (by kernel_rfl) (by kernel_rfl) (fun _ _ _ h => h) (Or.inl ⟨by rfl, ?_⟩) (by assumption) ?_
  rotate_left
  · (intro wq hSw; (try dsimp only at hSw); go_simp; (try with_reducible rfl))
  simp only [Act.put, List.getElem_toArray, List.getElem_cons_zero, List.getElem_cons_succ, List.setIfInBounds_toArray, List.set_cons_zero, List.set_cons_succ]
  refine wpAnyH_take (i := 2) (v := ?_) rfl (by kernel_rfl) (by kernel_rfl) (by kernel_rfl) (fun _ _ _ h => h) (Or.inl ⟨by rfl, ?_⟩) (by assumption) ?_
  rotate_left
  · (intro wq hSw; (try dsimp only at hSw); go_simp; (try with_reducible rfl))
  simp only [Act.put, List.getElem_toArray, List.getElem_cons_zero, List.getElem_cons_succ, List.setIfInBounds_toArray, List.set_cons_zero, List.set_cons_succ]
  refine wpAnyH_take (i := 3) (v := ?_) rfl (by kernel_rfl) (by kernel_rfl) (by kernel_rfl) (fun _ _ _ h => h) (Or.inl ⟨by rfl, ?_⟩) (by assumption) ?_
  rotate_left
  · (intro wq hSw; (try dsimp only at hSw); go_simp; (try with_reducible rfl))
  simp only [Act.put, List.getElem_toArray, List.getElem_cons_zero, List.getElem_cons_succ, List.setIfInBounds_toArray, List.set_cons_zero, List.set_cons_succ]
  refine wpAnyH_take (i := 4) (v := ?_) rfl (by kernel_rfl) (by kernel_rfl) (by kernel_rfl) (fun _ _ _ h => h) (Or.inl ⟨by rfl, ?_⟩) (by assumption) ?_
  rotate_left
  · (intro wq hSw; (try dsimp only at hSw); go_simp; (try with_reducible rfl))
  simp only [Act.put, List.getElem_toArray, List.getElem_cons_zero, List.getElem_cons_succ, List.setIfInBounds_toArray, List.set_cons_zero, List.set_cons_succ]
  refine wpAnyH_take (i := 5) (v := ?_) rfl (by kernel_rfl) (by kernel_rfl) (by kernel_rfl) (fun _ _ _ h => h) (Or.inl ⟨by rfl, ?_⟩) (by assumption) ?_
  rotate_left
  · (intro wq hSw; (try dsimp only at hSw); go_simp; (try with_reducible rfl))
  simp only [Act.put, List.getElem_toArray, List.getElem_cons_zero, List.getElem_cons_succ, List.setIfInBounds_toArray, List.set_cons_zero, List.set_cons_succ]
  refine wpAnyH_ready (rs := [6]) (by kernel_rfl) (by simp) ?_
  refine AllReadyH.cons (by simp only [List.getElem?_toArray, List.getElem?_cons_succ, List.getElem?_cons_zero]; rfl) (fun K hK => ?_) AllReadyH.nil
  (go_simp; go_at_call 38; refine (HCP.out _ HWD.out).mono ?_; rintro _ wd ⟨vn', vp', rfl, hcd, hma⟩; obtain ⟨⟨qn, mn, dn, rfl⟩, qp, mp, dp, rfl⟩ := hma.vals; have HMA := Lib.hid hma; have HCD := Lib.hid hcd; have zc := HKS.out _ hcd; clear hcd hma; go_simp)
  refine hK.out _ _ ?_ (fun hHeld => ?_)
  · (first | exact HS4.out | exact zc | exact HKS.out _ (Chg.refl _ _) | exact HKS.out _ (HCD.out.allocR _))
  clear hK K
  (try simp only [Act.put, List.getElem_toArray, List.getElem_cons_zero, List.getElem_cons_succ, List.setIfInBounds_toArray, List.set_cons_zero, List.set_cons_succ])
  refine wpAnyH_ready (rs := [7]) (by kernel_rfl) (by simp) ?_
  refine AllReadyH.cons (by simp only [List.getElem?_toArray, List.getElem?_cons_succ, List.getElem?_cons_zero]; rfl) (fun K hK => ?_) AllReadyH.nil
  go_simp
  refine hK.out _ _ ?_ (fun hHeld => ?_)
  · (first | exact HS4.out | exact zc | exact HKS.out _ (Chg.refl _ _) | exact HKS.out _ (HCD.out.allocR _))
  clear hK K
  (try simp only [Act.put, List.getElem_toArray, List.getElem_cons_zero, List.getElem_cons_succ, List.setIfInBounds_toArray, List.set_cons_zero, List.set_cons_succ])
  refine wpAnyH_ready (rs := [8]) (by kernel_rfl) (by simp) ?_
  refine AllReadyH.cons (by simp only [List.getElem?_toArray, List.getElem?_cons_succ, List.getElem?_cons_zero]; rfl) (fun K hK => ?_) AllReadyH.nil
  (refine step_append_rows (by rfl) (.tmp 45) (.tmp 48) 25 (by rfl) 34 8 112 Tryd.underlying25 elem_ent (by decide) _ (h.at_ + 1) _ (by rfl) ((HR6.out.chg (HWD.out.trans' HCD.out) (fun _ _ x => x)).alloc (.cells #[.int .i64 h.next, .int .i64 e.page, .string e.url, .string e.title, .slice qn mn dn, .slice qp mp dp, .int .i64 e.x, .int .i64 e.y] 34)) _ 1 [.int .i64 h.next, .int .i64 e.page, .string e.url, .string e.title, .slice qn mn dn, .slice qp mp dp, .int .i64 e.x, .int .i64 e.y] (by rfl) (RowAt.single wd 34 8 34 [.int .i64 h.next, .int .i64 e.page, .string e.url, .string e.title, .slice qn mn dn, .slice qp mp dp, .int .i64 e.x, .int .i64 e.y] rfl rfl) (by intro u hu; simp only [List.mem_cons, List.not_mem_nil, or_false] at hu; rcases hu with rfl | rfl | rfl | rfl | rfl | rfl | rfl | rfl <;> rfl) (by unfold maxLen; have := HN1.out; omega) (by have := HN1.out; omega) ?_; intro a7 n7 c7 w7 hrow7 hch7 hold7; have zc := CEL4.out _ _ ((HWD.out.trans' HCD.out).allocR _) hch7; have zf := FRZ4.out _ _ ((HWD.out.trans' HCD.out).allocR _) hch7)
  refine hK.out _ _ ?_ (fun hHeld => ?_)
  · (first | exact HS4.out | exact zc | exact HKS.out _ (Chg.refl _ _) | exact HKS.out _ (HCD.out.allocR _))
  clear hK K
  (try simp only [Act.put, List.getElem_toArray, List.getElem_cons_zero, List.getElem_cons_succ, List.setIfInBounds_toArray, List.set_cons_zero, List.set_cons_succ])
  refine wpAnyH_take (i := 9) (v := ?_) rfl (by kernel_rfl) (by kernel_rfl) (by kernel_rfl) (fun _ _ _ h => h) (Or.inl ⟨by rfl, ?_⟩) (by assumption) ?_
  rotate_left
  · (intro wq hSw; (try dsimp only at hSw); go_simp; (try with_reducible rfl))
  simp only [Act.put, List.getElem_toArray, List.getElem_cons_zero, List.getElem_cons_succ, List.setIfInBounds_toArray, List.set_cons_zero, List.set_cons_succ]
  refine wpAnyH_take (i := 10) (v := ?_) rfl (by kernel_rfl) (by kernel_rfl) (by kernel_rfl) (fun _ _ _ h => h) (Or.inl ⟨by rfl, ?_⟩) (by assumption) ?_
  rotate_left
  · (intro wq hSw; (try dsimp only at hSw); go_simp; (try with_reducible rfl))
  simp only [Act.put, List.getElem_toArray, List.getElem_cons_zero, List.getElem_cons_succ, List.setIfInBounds_toArray, List.set_cons_zero, List.set_cons_succ]
  refine wpAnyH_done (by kernel_rfl) ?_ _
  change wpList _ _ _ _ _ _
  simp only [List.drop_succ_cons, List.drop_zero]
  obtain ⟨a7', c7', hv7, -, -⟩ := hrow7.slice
  cases hv7
  have zc0 := zc.1
  have hHW := (HWD.out.trans' HCD.out).allocR (.cells #[.int .i64 h.next, .int .i64 e.page, .string e.url, .string e.title, .slice qn mn dn, .slice qp mp dp, .int .i64 e.x, .int .i64 e.y] 34)
  have hh8 := (HH6.out.still hHW).relist (rs' := rs.take (h.at_ + 1) ++ [⟨h.next, e.page, e.url, e.title, .slice qn mn dn, .slice qp mp dp, e.x, e.y⟩]) (h.list.take (h.at_ + 1) ++ [{ e with id := h.next }]) hch7 (by
      rw [List.length_append, hlt1, List.flatMap_append]; exact hrow7) hold7 (by rw [List.length_append, List.length_append, hlt1, hlt2]; rfl) (fun i x y => by
      by_cases hi : i < h.at_ + 1
      · rw [List.getElem_append_left (by rw [hlt1]; exact hi), List.getElem_append_left (by rw [hlt2]; exact hi)]
        exact (HH6.out.still hHW).each i (by rw [hlt1]; exact hi) (by show i < (h.list.take (h.at_ + 1)).length; rw [hlt2]; exact hi)
      · have hi2 : i = h.at_ + 1 := by rw [List.length_append, hlt1] at x; simp only [List.length_singleton] at x; omega
        subst hi2
        rw [List.getElem_append_right (by rw [hlt1]; exact Nat.le_refl _), List.getElem_append_right (by rw [hlt2]; exact Nat.le_refl _)]
        simp only [hlt1, hlt2, Nat.sub_self, List.getElem_cons_zero]
        refine ⟨rfl, rfl, rfl, rfl, ?_, rfl, rfl⟩
        refine (HMA.out.chg (Chg.alloc (fun _ => False) wd (.cells #[.int .i64 h.next, .int .i64 e.page, .string e.url, .string e.title, .slice qn mn dn, .slice qp mp dp, .int .i64 e.x, .int .i64 e.y] 34)) (fun _ _ x => x.elim) (fun k hk x => ?_))
        show k < wD.heap.size
        have hs := HWD.out.size
        rcases x with (x | x | x) | x
        rotate_right
        · have h1 := HH6.out.xl k x; omega
        · have h1 := (Array.getElem?_eq_some_iff.1 HH6.out.box).1
          subst x; omega
        · have h1 := HH6.out.row.lt k x; omega
        · have h1 := HH6.out.slp.lt k x; omega) (by rw [List.length_append, hlt2]; show h.at_ < h.at_ + 1 + 1; omega) (by rw [List.length_append, hlt2]; have := HN1.out; show h.at_ + 1 + 1 ≤ 100; have h9 := HL60.out; have h8 : h.at_ < h.list.length := HH0.out.ok; omega) (fun z hz => by
        rcases List.mem_append.1 hz with hz | hz
        · exact HH6.out.msgs z hz
        · rw [List.mem_singleton] at hz; subst hz; exact hmo)
  have HH8 := Lib.hid hh8
  have HC08 := Lib.hid ((HC03.out.trans' HC36.out).trans' (show Chg (fun k => Mut b (.slice a rs.length cl) vs k ∨ b3 ≤ k) w6 (w7.setCell ⟨b, 0, none⟩ (.slice a7 (h.at_ + 1 + 1) c7)) from (hHW.trans hch7 (fun _ _ x => x.elim) (fun k _ x => (HOLD5.out k x).elim (fun y => .inl (.inr (.inl y))) (fun y => y.elim))).trans (Chg.setCell w7 ⟨b, 0, none⟩ _) (fun _ _ x => x) (fun k _ x => .inl (.inl x))))
  have HOLD8 : Hid (∀ k, (Value.slice a7 (h.at_ + 1 + 1) c7).ownBlock = some k → Mut b (.slice a rs.length cl) vs k ∨ b3 ≤ k) := Lib.hid (fun k hk => by
    rcases hold7 k hk with x | x
    · exact (HOLD5.out k x).elim (fun y => .inl (.inr (.inl y))) (fun y => y.elim)
    · have h1 := HC03.out.size
      have h2 := HC36.out.size
      have h3 := hHW.size
      exact .inr (by omega))
  clear hh8 hHW
  have HA60 : Hid (h.at_ + 2 ≤ 61) := Lib.hid (by have h9 := HL60.out; have h8 : h.at_ < h.list.length := HH0.out.ok; omega)
  have HAL1 := Lib.hid hlt1
  have HAL2 := Lib.hid hlt2
  go_upto_region 5 with fail
  clear zc zf zc0 hHeld hrow7 hch7 hold7 HKS HWD HCD HMA HCP FRZ4 CEL4 HS4 HB36 hlt1 hlt2
  generalize w7.setCell ⟨b, 0, none⟩ (.slice a7 (h.at_ + 1 + 1) c7) = w8 at *
  have hbx := HH8.out.box
  have e0 := cell_of_block (i := 0) hbx rfl
  simp only [List.getElem_toArray, List.getElem_cons_zero, List.getElem_cons_succ] at e0
  by_cases h50 : 50 < h.at_ + 1 + 1
  · have z50 : (50 : Int) < ((h.at_ + 1 + 1 : Nat) : Int) := by omega
    have z51 : (50 : Int) < (h.at_ : Int) + 1 + 1 := by omega
    have hr8 := HH8.out.row
    have hlr : (rs.take (h.at_ + 1) ++ [(⟨h.next, e.page, e.url, e.title, .slice qn mn dn, .slice qp mp dp, e.x, e.y⟩ : EntR)]).length = h.at_ + 1 + 1 := by rw [List.length_append, HAL1.out]; rfl
    have hone8 := ent_ones HH8.out.len HH8.out.each
    have HD6 := Lib.hid (delE_any w8 _ _ 0 1 _ hr8 hone8 (by omega) (by rw [hlr]; omega) (by rw [hlr]; have := HA60.out; omega))
    rw [flatE_drop, Nat.zero_mul, List.take_zero, List.nil_append, hlr, show h.at_ + 1 + 1 - (1 - 0) = h.at_ + 1 by omega, show ((0 : Nat) : Int) = 0 from rfl, show ((1 : Nat) : Int) = 1 from rfl] at HD6
    have H50 := Lib.hid h50
    have HBX := Lib.hid hbx
    clear h50 hr8 hone8 hbx
    go_upto_region 7 with (go_at_call 53; refine HD6.out.mono ?_; rintro _ w9 ⟨v9, rfl, hrow9, hch9, hold9⟩; obtain ⟨a9, c9, rfl, -, -⟩ := hrow9.slice; have hb9 := hch9.keep HBX.out HH8.out.lb; have y0 := cell_of_block (i := 0) hb9 rfl; have yf := frozen_of_block (i := 0) hb9; simp only [List.getElem_toArray, List.getElem_cons_zero, List.getElem_cons_succ] at y0)
    have hlL : (h.list.take (h.at_ + 1) ++ [{ e with id := h.next }]).length = h.at_ + 1 + 1 := by rw [List.length_append, HAL2.out]; rfl
    have hld : ((rs.take (h.at_ + 1) ++ [(⟨h.next, e.page, e.url, e.title, .slice qn mn dn, .slice qp mp dp, e.x, e.y⟩ : EntR)]).drop 1).length = h.at_ + 1 := by rw [List.length_drop, hlr]; omega
    have hlD : ((h.list.take (h.at_ + 1) ++ [{ e with id := h.next }]).drop 1).length = h.at_ + 1 := by rw [List.length_drop, hlL]; omega
    have hh10 := HH8.out.relist (rs' := (rs.take (h.at_ + 1) ++ [(⟨h.next, e.page, e.url, e.title, .slice qn mn dn, .slice qp mp dp, e.x, e.y⟩ : EntR)]).drop 1) ((h.list.take (h.at_ + 1) ++ [{ e with id := h.next }]).drop 1) hch9 (by rw [hld]; exact hrow9) (fun k hk => .inl (hold9 k hk)) (by rw [hld, hlD]) (fun i x y => by
      rw [List.getElem_drop, List.getElem_drop]
      exact HH8.out.each _ _ _) (by rw [hlD]; exact Nat.lt_succ_self _) (by rw [hlD]; have := HN1.out; omega) (fun z hz => HH8.out.msgs z (List.mem_of_mem_drop hz))
    have HH10 := Lib.hid hh10
    have HC010 := Lib.hid ((HC08.out.trans hch9 (fun _ _ x => x) (fun k _ x => HOLD8.out k x)).trans (Chg.setCell w9 ⟨b, 0, none⟩ (.slice a9 (h.at_ + 1) c9)) (fun _ _ x => x) (fun k _ x => .inl (.inl x)))
    have HOLD10 : Hid (∀ k, (Value.slice a9 (h.at_ + 1) c9).ownBlock = some k → Mut b (.slice a rs.length cl) vs k ∨ b3 ≤ k) := Lib.hid (fun k hk => HOLD8.out k (hold9 k hk))
    have HLD := Lib.hid hlD
    clear hh10 hrow9 hch9 hold9 hb9 y0 yf hlL hld hlD hlr HD6 e0 z50 z51
    generalize w9.setCell ⟨b, 0, none⟩ (.slice a9 (h.at_ + 1) c9) = w10 at *
    have hbx := HH10.out.box
    have e0 := cell_of_block (i := 0) hbx rfl
    have e1 := cell_of_block (i := 1) hbx rfl
    have f1 := frozen_of_block (i := 1) hbx
    simp only [List.getElem_toArray, List.getElem_cons_zero, List.getElem_cons_succ] at e0 e1
    have ws : IntKind.i64.wrap ((h.at_ : Int) + 1 - 1) = (h.at_ : Int) := by rw [show (h.at_ : Int) + 1 - 1 = (h.at_ : Int) by omega]; exact IntWalk.i64_in _ (by have := HA60.out; omega)
    have ws2 : IntKind.i64.wrap (((h.at_ + 1 : Nat) : Int) - 1) = (h.at_ : Int) := by rw [show ((h.at_ + 1 : Nat) : Int) - 1 = (h.at_ : Int) by omega]; exact IntWalk.i64_in _ (by have := HA60.out; omega)
    go_wp2_with fail
    go_end0
    have ws3 : wrap64 (h.at_ : Int) = (h.at_ : Int) := IntWalk.wrap64_in _ (by have := HA60.out; omega)
    rw [ws3]
    have hb9 := setCell_block (i := 1) (.int .i64 (h.at_ : Int)) hbx
    have hc9 : Chg (fun k => k = b) w10 (w10.setCell ⟨b, 1, none⟩ (.int .i64 (h.at_ : Int))) := Chg.setCell w10 ⟨b, 1, none⟩ _
    have hh9 := HH10.out.nums hc9 h.at_ (h.next + 1) h.nextPage (by simpa using hb9) (by show h.at_ < ((h.list.take (h.at_ + 1) ++ [{ e with id := h.next }]).drop 1).length; rw [HLD.out]; exact Nat.lt_succ_self _)
    have hadd : addL h e = (h.list.take (h.at_ + 1) ++ [{ e with id := h.next }]).drop 1 := by
      unfold addL
      simp only
      rw [if_pos (by rw [List.length_append, HAL2.out]; exact H50.out)]
    have hm : addM h e = ⟨(h.list.take (h.at_ + 1) ++ [{ e with id := h.next }]).drop 1, h.at_, h.next + 1, h.nextPage, h.sleeping⟩ := by
      unfold addM
      rw [hadd, HLD.out]
      rfl
    rw [hm]
    refine ⟨rfl, _, _, _, hh9, (HC010.out.trans hc9 (fun _ _ x => x) (fun k _ x => .inl (.inl x))).mono (fun k hk x => x.elim id (fun y => by omega)), fun k hk x => ?_⟩
    rcases x with x | x | x
    · exact .inl x
    · exact (HOLD10.out k x).elim id (fun y => by omega)
    · exact .inr (.inr x)
  · have z50 : ¬ (50 : Int) < ((h.at_ + 1 + 1 : Nat) : Int) := by omega
    have z51 : ¬ (50 : Int) < (h.at_ : Int) + 1 + 1 := by omega
    have e1 := cell_of_block (i := 1) hbx rfl
    have f1 := frozen_of_block (i := 1) hbx
    simp only [List.getElem_toArray, List.getElem_cons_zero, List.getElem_cons_succ] at e1
    have ws : IntKind.i64.wrap ((h.at_ : Int) + 1 + 1 - 1) = ((h.at_ + 1 : Nat) : Int) := by rw [show (h.at_ : Int) + 1 + 1 - 1 = ((h.at_ + 1 : Nat) : Int) by omega]; exact IntWalk.i64_in _ (by have := HA60.out; omega)
    have ws2 : IntKind.i64.wrap (((h.at_ + 1 + 1 : Nat) : Int) - 1) = ((h.at_ + 1 : Nat) : Int) := by rw [show ((h.at_ + 1 + 1 : Nat) : Int) - 1 = ((h.at_ + 1 : Nat) : Int) by omega]; exact IntWalk.i64_in _ (by have := HA60.out; omega)
    have H50 := Lib.hid h50
    clear h50
    go_wp2_with fail
    go_end0
    have hb9 := setCell_block (i := 1) (.int .i64 ((h.at_ : Int) + 1)) hbx
    have hc9 : Chg (fun k => k = b) w8 (w8.setCell ⟨b, 1, none⟩ (.int .i64 ((h.at_ : Int) + 1))) := Chg.setCell w8 ⟨b, 1, none⟩ _
    have hl := HAL2.out
    have hh9 := HH8.out.nums hc9 (h.at_ + 1) (h.next + 1) h.nextPage (by simpa using hb9) (by show h.at_ + 1 < (h.list.take (h.at_ + 1) ++ [{ e with id := h.next }]).length; rw [List.length_append, hl]; show h.at_ + 1 < h.at_ + 1 + 1; omega)
    have hadd : addL h e = h.list.take (h.at_ + 1) ++ [{ e with id := h.next }] := by
      unfold addL
      simp only
      rw [if_neg (by rw [List.length_append, hl]; exact H50.out)]
    have hm : addM h e = ⟨h.list.take (h.at_ + 1) ++ [{ e with id := h.next }], h.at_ + 1, h.next + 1, h.nextPage, h.sleeping⟩ := by
      unfold addM
      rw [hadd, List.length_append, hl]
      rfl
    rw [hm]
    refine ⟨rfl, _, _, _, hh9, (HC08.out.trans hc9 (fun _ _ x => x) (fun k _ x => .inl (.inl x))).mono (fun k hk x => x.elim id (fun y => by omega)), fun k hk x => ?_⟩
    rcases x with x | x | x
    · exact .inl x
    · exact (HOLD8.out k x).elim id (fun y => by omega)
    · exact .inr (.inr x)
end Go.Proofs.YtiecgbmeobpomaaDoor
