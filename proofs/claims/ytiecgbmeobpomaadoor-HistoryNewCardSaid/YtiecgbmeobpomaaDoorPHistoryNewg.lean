/-
  History.Go.
  History.Go out of the list's range.
  strings.Builder.WriteRune and unicode/utf8.ValidString at this program.
  text.Repair: a string with U+FFFD in place of what is no UTF-8.
  The reference's Repair.
  Maps of truth values that the call itself made; port.distinct.
-/
import Derived.Test.YtiecgbmeobpomaaDoorPHistoryNewf
import Derived.Shelf.Strings.Builder1
import Derived.Shelf.Strings.BuilderF
import Derived.Shelf.Strings.BuilderK
import Derived.Shelf.Strings.BuilderRune
import Derived.Shelf.Unicode.ValidAny
import Derived.Ground.NamesProg
import Derived.Lib.LaidU8T
import Derived.PinnedBridge
import Derived.Test.YtiecgbmeobpomaaDoorPHistoryNewb
import Derived.Lib.OthersKept
import Derived.Laws.RangeAny
import Derived.BigCall
import Derived.Lib.MapLaws
import Derived.Lib.TrimUEq
import Derived.Lib.ValidLaws
import Derived.Stop.FmtQuoteTie
import Derived.Maps.Own
import Derived.Maps.Views
import Derived.Maps.Keyed
import Derived.DeepKeys4
import Derived.Carry
namespace Go.Proofs.YtiecgbmeobpomaaDoor
open Go.RowKit
set_option linter.unusedVariables false
set_option linter.unusedSimpArgs false

theorem results_cell_row_tmp48 {fn : Func} {p u : Tmp} {ty : TypeId} {P : Program} (h : fn.results = #[.cell p ty, .tmp u]) (tmps : Array Value) (w : World) (g : Nat) (cs : Array Value)
    (hp : tmps.getD p undef = .pointer (some ⟨g, 0, none⟩)) (hl : (loadVar ty ⟨g, 0, none⟩).run P w = .ok (.agg cs) w) :
    (results fn tmps).run P w = .ok (.tuple #[.agg cs, tmps.getD u undef]) w := by
  have hp' : tmps[p]?.getD undef = .pointer (some ⟨g, 0, none⟩) := by simpa using hp
  rw [results_cell_tmp h]
  simp [hp', asAddr, hl, Result.andThen]
theorem HiAt.goat {w0 : Past} {w w1 : World} {b : Nat} {h : Hist} {vl vs : Value} {rs : List EntR} (H : HiAt w0 w b h vl vs rs) {d : Int} (hd : GoOk h d) : ((h.at_ : Int) + d) = (((h.at_ : Int) + d).toNat : Int) ∧ ((h.at_ : Int) + d).toNat < h.list.length := by
  unfold GoOk at hd
  omega
set_option maxHeartbeats 6400000 in
set_option maxRecDepth 100000 in
theorem go_any (w0 : Past) (w : World) (b : Nat) (h : Hist) (vl vs : Value) (rs : List EntR) (H : HiAt w0 w b h vl vs rs) (d : Int) (hd : GoOk h d) (hl : h.list.length ≤ 60) (hsl : h.sleeping.length ≤ 900) :
    Calls Tryd.prog 20 #[.pointer (some ⟨b, 0, none⟩), .int .i64 d] w fun z w' => ∃ zv, z = .returned (.tuple #[zv, .int .i64 0]) ∧ OpV w0 w b (Mut b vl vs) (goM h d) (goV h d) zv w' := by
  have HMLT := Lib.hid H.mutLt
  have HB0 : Hid (w0.heap.size ≤ w.heap.size) := Lib.hid H.chg.size
  obtain ⟨w06, hw6e, hx6, H1⟩ := H.beside (.cells #[.int .i64 0, .int .i64 0, .string ⟨#[]⟩, .string ⟨#[]⟩, .slice none 0 0, .slice none 0 0, .int .i64 0, .int .i64 0, .int .i64 0, .bool false, .bool false, .slice none 0 0] 40)
  have HW6E := Lib.hid hw6e
  have HX6 := Lib.hid hx6
  have HB6 := Lib.hid (alloc_block w (.cells #[.int .i64 0, .int .i64 0, .string ⟨#[]⟩, .string ⟨#[]⟩, .slice none 0 0, .slice none 0 0, .int .i64 0, .int .i64 0, .int .i64 0, .bool false, .bool false, .slice none 0 0] 40))
  have HC1 := Lib.hid (Chg.alloc (fun _ => False) w (.cells #[.int .i64 0, .int .i64 0, .string ⟨#[]⟩, .string ⟨#[]⟩, .slice none 0 0, .slice none 0 0, .int .i64 0, .int .i64 0, .int .i64 0, .bool false, .bool false, .slice none 0 0] 40))
  have HH1 := Lib.hid H1
  have HL := Lib.hid hl
  have HSL := Lib.hid hsl
  have d0 := cell_of_block (i := 0) H1.box rfl
  have d1 := cell_of_block (i := 1) H1.box rfl
  simp only [List.getElem_toArray, List.getElem_cons_zero, List.getElem_cons_succ] at d0 d1
  have hgo := H.goat (w1 := w) hd
  have HGO := Lib.hid hgo
  have HD := Lib.hid hd
  have HRL := Lib.hid H.len
  have HOK := Lib.hid H.ok
  obtain ⟨al, cl, rfl, -, -⟩ := H.row.slice
  obtain ⟨asl, csl, rfl, -, -⟩ := H.slp.slice
  have wn : IntKind.i64.wrap (-(h.at_ : Int)) = -(h.at_ : Int) := IntWalk.i64_in _ (by have := H.ok; omega)
  have wl : IntKind.i64.wrap ((rs.length : Int) - 1) = (rs.length : Int) - 1 := IntWalk.i64_in _ (by have := H.len; omega)
  have wla : IntKind.i64.wrap ((rs.length : Int) - 1 - (h.at_ : Int)) = (rs.length : Int) - 1 - (h.at_ : Int) := IntWalk.i64_in _ (by have := H.len; have := H.ok; omega)
  have wn' : wrap64 (-(h.at_ : Int)) = -(h.at_ : Int) := IntWalk.wrap64_in _ (by have := H.ok; omega)
  have wl' : wrap64 ((rs.length : Int) - 1) = (rs.length : Int) - 1 := IntWalk.wrap64_in _ (by have := H.len; omega)
  have wla' : wrap64 ((rs.length : Int) - 1 - (h.at_ : Int)) = (rs.length : Int) - 1 - (h.at_ : Int) := IntWalk.wrap64_in _ (by have := H.len; have := H.ok; omega)
  have n1 : ¬ d < -(h.at_ : Int) := by unfold GoOk at hd; omega
  have n2 : ¬ (rs.length : Int) - 1 - (h.at_ : Int) < d := by unfold GoOk at hd; have := H.len; omega
  clear H H1 hw6e hx6 hl hsl hd hgo
  go_enter Tryd.func20, Tryd.ntmps20
  go_upto_region 1 with fail
  have HS1 := Lib.hid (World.size_alloc w (.cells #[.int .i64 0, .int .i64 0, .string ⟨#[]⟩, .string ⟨#[]⟩, .slice none 0 0, .slice none 0 0, .int .i64 0, .int .i64 0, .int .i64 0, .bool false, .bool false, .slice none 0 0] 40))
  generalize w.alloc (.cells #[.int .i64 0, .int .i64 0, .string ⟨#[]⟩, .string ⟨#[]⟩, .slice none 0 0, .slice none 0 0, .int .i64 0, .int .i64 0, .int .i64 0, .bool false, .bool false, .slice none 0 0] 40) = w1 at *
  generalize hb6 : w.heap.size = b6 at HB6 HX6 HS1 ⊢
  have HB6W := Lib.hid hb6
  clear hb6
  go_quiet (fail)
  go_upto_region 3 with fail
  have hcq := Chg.drewN (fun _ => False) w1 nq
  generalize w1.drewN nq = wq at *
  have HCQ := Lib.hid hcq
  clear wn wl wla wn' wl' wla' n1 n2 d0 d1
  have HCU := Lib.hid (current_any w06 wq b h _ _ rs (HH1.out.still hcq) (curE h) (curE_get h HOK.out))
  unfold EntC at HCU
  clear hcq
  go_upto_region 4 with (go_at_call 19; refine HCU.out.mono ?_; rintro _ w2 ⟨vn2, vp2, rfl, hc2, hm2⟩; obtain ⟨⟨pn2, nn2, cn2, rfl⟩, pp2, np2, cp2, rfl⟩ := hm2.vals; have hpg2 := run_page (curE h).id (curE h).page (curE h).x (curE h).y (curE h).url (curE h).title pn2 pp2 nn2 cn2 np2 cp2 w2)
  have h2 := HH1.out.still (HCQ.out.trans' hc2)
  have d1 := cell_of_block (i := 1) h2.box rfl
  have f1 := frozen_of_block (i := 1) h2.box
  simp only [List.getElem_toArray, List.getElem_cons_zero, List.getElem_cons_succ] at d1
  have HC2 := Lib.hid (HC1.out.trans' (HCQ.out.trans' hc2))
  have HB62 := Lib.hid ((HCQ.out.trans' hc2).keep HB6.out (fun x => x))
  have HS2 := Lib.hid (HCQ.out.trans' hc2).size
  have HH2 := Lib.hid h2
  clear h2 hc2 hm2 HC1 HB6 HH1 HCU hpg2 HCQ
  generalize hold : (curE h).page = old at *
  have HOLD := Lib.hid hold
  clear hold
  have hto := HGO.out.1
  have wat : IntKind.i64.wrap ((h.at_ : Int) + d) = (h.at_ : Int) + d := IntWalk.i64_in _ (by have := HGO.out; have := HL.out; omega)
  have wat' : wrap64 ((h.at_ : Int) + d) = (h.at_ : Int) + d := IntWalk.wrap64_in _ (by have := HGO.out; have := HL.out; omega)
  clear hto
  go_upto_region 5 with fail
  have hb1s := setCell_block (i := 1) (.int .i64 ((h.at_ : Int) + d)) HH2.out.box
  have hc24 : Chg (fun k => k = b) w2 (w2.setCell ⟨b, 1, none⟩ (.int .i64 ((h.at_ : Int) + d))) := Chg.setCell w2 ⟨b, 1, none⟩ _
  have h4 : HiAt w06 (w2.setCell ⟨b, 1, none⟩ (.int .i64 ((h.at_ : Int) + d))) b (goH h d) (.slice al rs.length cl) (.slice asl h.sleeping.length csl) rs := HH2.out.nums hc24 ((h.at_ : Int) + d).toNat h.next h.nextPage (by rw [← HGO.out.1]; simpa using hb1s) HGO.out.2
  have HC4 := Lib.hid (HC2.out.trans hc24 (fun _ _ x => x.elim) (fun k _ e => (.inl e : Mut b (.slice al rs.length cl) (.slice asl h.sleeping.length csl) k)))
  have HB64 := Lib.hid (hc24.keep HB62.out (fun e => by have := HMLT.out b (.inl rfl); have := HB6W.out; omega))
  have HS24 := Lib.hid hc24.size
  have HH4 := Lib.hid h4
  clear hb1s hc24 d1 f1 wat wat' HB62 h4 HH2
  generalize w2.setCell ⟨b, 1, none⟩ (.int .i64 ((h.at_ : Int) + d)) = w4 at *
  have HCU4 := Lib.hid (fun W (hc : Chg (fun _ => False) w4 W) => current_any w06 W b (goH h d) (.slice al rs.length cl) _ rs (HH4.out.still hc) (curE (goH h d)) (curE_get _ HH4.out.ok))
  unfold EntC at HCU4
  generalize hce : curE (goH h d) = e at HCU4
  have HCE := Lib.hid hce
  clear hce
  go_upto_region 6 with (go_at_call 19; first
    | (refine (HCU4.out _ HC5.out).mono ?_; rintro _ w6 ⟨vn6, vp6, rfl, hc6, hm6⟩; obtain ⟨⟨pn6, nn6, cn6, rfl⟩, pp6, np6, cp6, rfl⟩ := hm6.vals; have hpg6 := run_page e.id e.page e.x e.y e.url e.title pn6 pp6 nn6 cn6 np6 cp6 w6; clear hm6)
    | (refine (HCU4.out _ (Chg.refl _ _)).mono ?_; rintro _ w5 ⟨vn5, vp5, rfl, hc5, hm5⟩; obtain ⟨⟨qn, mn, dn, rfl⟩, qp, mp, dp, rfl⟩ := hm5.vals; have HM5 := Lib.hid hm5; have HC5 := Lib.hid hc5; clear hm5 hc5))
  obtain ⟨w08, hw8e, hx8, h7⟩ := (HH4.out.still (HC5.out.trans' hc6)).beside (.cells #[.int .i64 e.id, .int .i64 e.page, .string e.url, .string e.title, .slice qn mn dn, .slice qp mp dp, .int .i64 e.x, .int .i64 e.y, .int .i64 e.page, .bool true, .bool false, .slice none 0 0] 40)
  have HW8E := Lib.hid (hw8e.trans HW6E.out)
  have HB8 := Lib.hid (alloc_block w6 (.cells #[.int .i64 e.id, .int .i64 e.page, .string e.url, .string e.title, .slice qn mn dn, .slice qp mp dp, .int .i64 e.x, .int .i64 e.y, .int .i64 e.page, .bool true, .bool false, .slice none 0 0] 40))
  have HC57 := Lib.hid (hc6.allocR (.cells #[.int .i64 e.id, .int .i64 e.page, .string e.url, .string e.title, .slice qn mn dn, .slice qp mp dp, .int .i64 e.x, .int .i64 e.y, .int .i64 e.page, .bool true, .bool false, .slice none 0 0] 40))
  have HC47 := Lib.hid (HC5.out.trans' HC57.out)
  have HS5 := Lib.hid HC5.out.size
  have HS56 := Lib.hid hc6.size
  have HS7 := Lib.hid (World.size_alloc w6 (.cells #[.int .i64 e.id, .int .i64 e.page, .string e.url, .string e.title, .slice qn mn dn, .slice qp mp dp, .int .i64 e.x, .int .i64 e.y, .int .i64 e.page, .bool true, .bool false, .slice none 0 0] 40))
  have HH7 := Lib.hid h7
  have HX8 := Lib.hid hx8
  clear h7 hc6 hpg6 hw8e hx8 HCU4
  generalize w6.alloc (.cells #[.int .i64 e.id, .int .i64 e.page, .string e.url, .string e.title, .slice qn mn dn, .slice qp mp dp, .int .i64 e.x, .int .i64 e.y, .int .i64 e.page, .bool true, .bool false, .slice none 0 0] 40) = w7 at *
  generalize hb8 : w6.heap.size = b8 at HB8 HX8 HS7 HS56 ⊢
  have HB8N : Hid (¬ Mut b (.slice al rs.length cl) (.slice asl h.sleeping.length csl) b8) := Lib.hid (fun x => by have := HH4.out.mutLt b8 x; have := HS5.out; have := HS56.out; omega)
  clear hb8
  have HX9 : Hid (∀ k, k = b6 ∨ k = b8 ∨ w0.X k → w08.X k) := Lib.hid (fun k x => by
    rcases x with x | x | x
    · exact (HX8.out k).2 (.inl ((HX6.out k).2 (.inr x)))
    · exact (HX8.out k).2 (.inr x)
    · exact (HX8.out k).2 (.inl ((HX6.out k).2 (.inl x))))
  have HB8S : Hid (w0.heap.size ≤ b8 ∧ w.heap.size ≤ b8) := Lib.hid (by have := HB0.out; have := HB6W.out; have := HS1.out; have := HS2.out; have := HS24.out; have := HS5.out; have := HS56.out; omega)
  have HB67 := Lib.hid (HC47.out.keep HB64.out (fun x => x))
  have HCW7 := Lib.hid (HC4.out.trans HC47.out (fun k _ x => (.inl x : Mut b (.slice al rs.length cl) (.slice asl h.sleeping.length csl) k ∨ w.heap.size ≤ k)) (fun _ _ x => x.elim))
  have y8 := cell_of_block (i := 8) HB8.out rfl
  simp only [List.getElem_toArray, List.getElem_cons_zero, List.getElem_cons_succ] at y8
  by_cases hp : e.page = old
  · have hpb : (e.page == old) = true := by simp [hp]
    have HV : Hid (goV h d = ⟨e, e.page, true, false, []⟩) := Lib.hid (by unfold goV; rw [HCE.out, HOLD.out, if_pos hp])
    have HN : Hid (goM h d = goH h d) := Lib.hid (by unfold goM; rw [HCE.out, HOLD.out, if_pos hp])
    have HB6X := HB67
    have HB8X := HB8
    have HH12 := HH7
    have HC5E := Lib.hid (HC57.out.mono (S' := fun k => k < w4.heap.size) (fun _ _ x => x.elim))
    have HMU : Hid (∀ k, k < w5.heap.size → Mut b (.slice al rs.length cl) (.slice asl h.sleeping.length csl) k → k < w4.heap.size) := Lib.hid (fun k _ x => HH4.out.mutLt k x)
    have HMW : Hid (∀ k, k < w.heap.size → Mut b (.slice al rs.length cl) (.slice asl h.sleeping.length csl) k → Mut b (.slice al rs.length cl) (.slice asl h.sleeping.length csl) k) := Lib.hid (fun k hk x => x)
    have HCW := HCW7
    have HPP := Lib.hid hp
    clear hp
    go_upto_region 7 with fail
    clear y8
    have hb6e := HB6X.out
    have hb8e := HB8X.out
    have l0 := cell_of_block (i := 0) hb8e rfl
    have l1 := cell_of_block (i := 1) hb8e rfl
    have l2 := cell_of_block (i := 2) hb8e rfl
    have l3 := cell_of_block (i := 3) hb8e rfl
    have l4 := cell_of_block (i := 4) hb8e rfl
    have l5 := cell_of_block (i := 5) hb8e rfl
    have l6 := cell_of_block (i := 6) hb8e rfl
    have l7 := cell_of_block (i := 7) hb8e rfl
    have l8 := cell_of_block (i := 8) hb8e rfl
    have l9 := cell_of_block (i := 9) hb8e rfl
    have l10 := cell_of_block (i := 10) hb8e rfl
    have l11 := cell_of_block (i := 11) hb8e rfl
    simp only [List.getElem_toArray, List.getElem_cons_zero, List.getElem_cons_succ] at l0 l1 l2 l3 l4 l5 l6 l7 l8 l9 l10 l11
    obtain ⟨z0, q0, z1, q1, z2, q2, z3, q3, z4, q4, z5, q5, z6, q6, z7, q7, z8, q8, z9, q9, z10, q10, z11, q11, hbf, hcs⟩ := store12 hb6e (.int .i64 e.id) (.int .i64 e.page) (.string e.url) (.string e.title) (.slice qn mn dn) (.slice qp mp dp) (.int .i64 e.x) (.int .i64 e.y) (.int .i64 e.page) (.bool true) (.bool false) (.slice none 0 0)
    have HCS := Lib.hid hcs
    clear hcs hb6e hb8e
    go_wp2_with fail
    generalize ((((((((((((w7.setCell ⟨b6, 0, none⟩ (.int .i64 e.id)).setCell ⟨b6, 1, none⟩ (.int .i64 e.page)).setCell ⟨b6, 2, none⟩ (.string e.url)).setCell ⟨b6, 3, none⟩ (.string e.title)).setCell ⟨b6, 4, none⟩ (.slice qn mn dn)).setCell ⟨b6, 5, none⟩ (.slice qp mp dp)).setCell ⟨b6, 6, none⟩ (.int .i64 e.x)).setCell ⟨b6, 7, none⟩ (.int .i64 e.y)).setCell ⟨b6, 8, none⟩ (.int .i64 e.page)).setCell ⟨b6, 9, none⟩ (.bool true)).setCell ⟨b6, 10, none⟩ (.bool false)).setCell ⟨b6, 11, none⟩ (.slice none 0 0)) = wz at *
    refine bodyPost_ret (results_cell_row_tmp48 rfl _ _ b6 #[.int .i64 e.id, .int .i64 e.page, .string e.url, .string e.title, .slice qn mn dn, .slice qp mp dp, .int .i64 e.x, .int .i64 e.y, .int .i64 e.page, .bool true, .bool false, .slice none 0 0] (by rfl) (run_loadVar_row _ b6 40 40 _ _ _ hbf Tryd.underlying40 rfl (by kernel_rfl))) rfl ?_
    rw [HV.out, HN.out]
    have hb6n : ∀ k, k = b6 → w0.heap.size ≤ k ∧ k < w4.heap.size ∧ w.heap.size ≤ k := fun k e => by
      have := HB6W.out
      have := HB0.out
      have := HS24.out
      have := HS2.out
      have := HS1.out
      omega
    have hms : MsgAt (fun k => k < w.heap.size ∨ Mut b (.slice al rs.length cl) (.slice asl h.sleeping.length csl) k) wz (.slice qn mn dn) (.slice qp mp dp) e.msg := by
      refine HM5.out.chg (HC5E.out.trans HCS.out (fun k _ x => x) (fun k _ x => (hb6n k x).2.1)) (fun k _ x => x) (fun k hk x => ?_)
      rcases x with x | x
      · have := HS2.out
        have := HS24.out
        have := HS1.out
        have := HB6W.out
        show k < w4.heap.size
        omega
      · exact HMU.out k hk x
    refine ⟨_, rfl, (.slice al rs.length cl), (.slice asl h.sleeping.length csl), rs, ?_, ?_, HMW.out, .slice qn mn dn, .slice qp mp dp, .slice none 0 0, rfl, hms, RowAt.nil _ _ _, fun k hk => by simp [Value.ownBlock] at hk⟩
    · refine (HH12.out.write HCS.out (fun k x => HX9.out k (.inl x)) (fun k x => ?_)).shrink HW8E.out (fun k x => HX9.out k (.inr (.inr x)))
      show w08.toWorld.heap.size ≤ k
      rw [HW8E.out]
      exact (hb6n k x).1
    · exact (HCW.out.trans HCS.out (fun k _ x => x) (fun k _ x => .inr (hb6n k x).2.2)).mono (fun k hk x => x.elim id (fun y => by omega))
  · have hpb : (e.page == old) = false := by simp [hp]
    have HPP := Lib.hid hp
    clear hp
    have s7 := cell_of_block (i := 4) HH7.out.box rfl
    simp only [List.getElem_toArray, List.getElem_cons_zero, List.getElem_cons_succ] at s7
    have HS0 : Hid (w7.cell? ⟨b, 4, none⟩ = some (.slice asl h.sleeping.length csl) ∧ w7.cell? ⟨b8, 8, none⟩ = some (.int .i64 e.page)) := Lib.hid ⟨s7, y8⟩
    have HIX := Lib.hid (fun W (hc : Chg (fun _ => False) w7 W) => idxI_any W (.slice asl h.sleeping.length csl) h.sleeping e.page (HH7.out.slp.chg hc (fun _ _ x => x)))
    rcases idxOf_or e.page h.sleeping with ⟨hn, hi⟩ | ⟨ix, hil, hx, her, hm⟩
    · rw [hi] at HIX
      have HNE : Hid (h.sleeping.erase e.page = h.sleeping) := Lib.hid (List.erase_of_not_mem hn)
      have HV : Hid (goV h d = ⟨e, e.page, false, true, []⟩) := Lib.hid (by unfold goV; rw [HCE.out, HOLD.out, if_neg HPP.out, decide_eq_false hn])
      have HN : Hid (goM h d = sleepM { goH h d with sleeping := h.sleeping.erase e.page } old) := Lib.hid (by unfold goM; rw [HCE.out, HOLD.out, if_neg HPP.out])
      clear hn hi
      go_upto_region 8 with fail
      clear y8 s7
      refine wp_region_held_split 7 (fun w' => w'.cell? ⟨b, 4, none⟩ = some (.slice asl h.sleeping.length csl) ∧ w'.cell? ⟨b8, 8, none⟩ = some (.int .i64 e.page)) (by kernel_rfl) (by kernel_rfl) ?_ (fun hHeld => ?_)
      · (first | exact HS0.out | exact HKS.out _ (Chg.refl _ _))
      simp only [List.take_succ_cons, List.take_zero]
      have HKS : Hid (∀ W, Chg (fun _ => False) w7.drew W → W.cell? ⟨b, 4, none⟩ = some (.slice asl h.sleeping.length csl) ∧ W.cell? ⟨b8, 8, none⟩ = some (.int .i64 e.page)) := Lib.hid (fun W hc => ⟨hc.cell HS0.out.1, hc.cell HS0.out.2⟩)
      have HWD : Hid (Chg (fun _ => False) w7 w7.drew) := Lib.hid (Chg.refl _ w7).drewR
      generalize w7.drew = wD at *
      refine wpAnyH_take (i := 0) (v := ?_) rfl (by kernel_rfl) (by kernel_rfl) (by kernel_rfl) (fun _ _ _ h => h) (Or.inl ⟨by rfl, ?_⟩) (by assumption) ?_
      rotate_left
      · (intro wq hSw; (try dsimp only at hSw); go_simp; (try with_reducible rfl))
      simp only [Act.put, List.getElem_toArray, List.getElem_cons_zero, List.getElem_cons_succ, List.setIfInBounds_toArray, List.set_cons_zero, List.set_cons_succ]
      refine wpAnyH_take (i := 1) (v := ?_) rfl (by kernel_rfl) (by kernel_rfl) (by kernel_rfl) (fun _ _ _ h => h) (Or.inl ⟨by rfl, ?_⟩) (by assumption) ?_
      rotate_left
      · (intro wq hSw; (try dsimp only at hSw); go_simp; (try with_reducible rfl))
      simp only [Act.put, List.getElem_toArray, List.getElem_cons_zero, List.getElem_cons_succ, List.setIfInBounds_toArray, List.set_cons_zero, List.set_cons_succ]
      refine wpAnyH_take (i := 2) (v := ?_) rfl (by kernel_rfl) (by kernel_rfl) (by kernel_rfl) (fun _ _ _ h => h) (Or.inl ⟨by rfl, ?_⟩) (by assumption) ?_
      rotate_left
      · (intro wq hSw; (try dsimp only at hSw); go_simp; (try with_reducible rfl))
      simp only [Act.put, List.getElem_toArray, List.getElem_cons_zero, List.getElem_cons_succ, List.setIfInBounds_toArray, List.set_cons_zero, List.set_cons_succ]
      refine wpAnyH_take (i := 3) (v := ?_) rfl (by kernel_rfl) (by kernel_rfl) (by kernel_rfl) (fun _ _ _ h => h) (Or.inl ⟨by rfl, ?_⟩) (by assumption) ?_
      rotate_left
      · (intro wq hSw; (try dsimp only at hSw); go_simp; (try with_reducible rfl))
      simp only [Act.put, List.getElem_toArray, List.getElem_cons_zero, List.getElem_cons_succ, List.setIfInBounds_toArray, List.set_cons_zero, List.set_cons_succ]
      refine wpAnyH_take (i := 4) (v := ?_) rfl (by kernel_rfl) (by kernel_rfl) (by kernel_rfl) (fun _ _ _ h => h) (Or.inl ⟨by rfl, ?_⟩) (by assumption) ?_
      rotate_left
      · (intro wq hSw; (try dsimp only at hSw); go_simp; (try with_reducible rfl))
      simp only [Act.put, List.getElem_toArray, List.getElem_cons_zero, List.getElem_cons_succ, List.setIfInBounds_toArray, List.set_cons_zero, List.set_cons_succ]
      refine wpAnyH_take (i := 5) (v := ?_) rfl (by kernel_rfl) (by kernel_rfl) (by kernel_rfl) (fun _ _ _ h => h) (Or.inl ⟨by rfl, ?_⟩) (by assumption) ?_
      rotate_left
      · (intro wq hSw; (try dsimp only at hSw); go_simp; (try with_reducible rfl))
      simp only [Act.put, List.getElem_toArray, List.getElem_cons_zero, List.getElem_cons_succ, List.setIfInBounds_toArray, List.set_cons_zero, List.set_cons_succ]
      refine wpAnyH_ready (rs := [6]) (by kernel_rfl) (by simp) ?_
      refine AllReadyH.cons (by simp only [List.getElem?_toArray, List.getElem?_cons_succ, List.getElem?_cons_zero]; rfl) (fun K hK => ?_) AllReadyH.nil
      (go_simp; go_at_call 39; refine (HIX.out _ HWD.out).mono ?_; rintro _ wi ⟨rfl, rfl⟩; go_simp)
      refine hK.out _ _ ?_ (fun hHeld => ?_)
      · (first | exact HS0.out | exact HKS.out _ (Chg.refl _ _))
      clear hK K
      (try simp only [Act.put, List.getElem_toArray, List.getElem_cons_zero, List.getElem_cons_succ, List.setIfInBounds_toArray, List.set_cons_zero, List.set_cons_succ])
      refine wpAnyH_done (by kernel_rfl) ?_ _
      change wpList _ _ _ _ _ _
      simp only [List.drop_succ_cons, List.drop_zero]
      go_upto_region 9 with fail
      have hd := HWD.out
      have hbD := hd.keep HB8.out (fun x => x)
      have y9 := cell_of_block (i := 9) hbD rfl
      have yf9 := frozen_of_block (i := 9) hbD
      simp only [List.getElem_toArray, List.getElem_cons_zero, List.getElem_cons_succ] at y9
      have hHD := HH7.out.still hd
      have HCD := Lib.hid hd
      clear hd HKS HS0 hHeld
      go_upto_region 10 with fail
      have hb9' := setCell_block (i := 9) (.bool false) hbD
      have hb9 : (wi.setCell ⟨b8, 9, none⟩ (.bool false)).heap[b8]? = some (.cells #[.int .i64 e.id, .int .i64 e.page, .string e.url, .string e.title, .slice qn mn dn, .slice qp mp dp, .int .i64 e.x, .int .i64 e.y, .int .i64 e.page, .bool false, .bool false, .slice none 0 0] 40 (0, 0)) := by simpa using hb9'
      have hc9 : Chg (fun k => k = b8) wi (wi.setCell ⟨b8, 9, none⟩ (.bool false)) := Chg.setCell wi ⟨b8, 9, none⟩ _
      have h9 := hHD.write hc9 (fun k x => HX9.out k (.inr (.inl x))) (fun k x => by show w08.toWorld.heap.size ≤ k; rw [HW8E.out, show k = b8 from x]; exact HB8S.out.1)
      have hC79 := HCD.out.trans hc9 (fun _ _ x => x.elim) (fun k _ x => x)
      have HC79 := Lib.hid hC79
      have HB9 := Lib.hid hb9
      have HH9 := Lib.hid h9
      clear hb9' hb9 hc9 h9 hC79 hHD hbD y9 yf9 HCD HWD
      generalize wi.setCell ⟨b8, 9, none⟩ (.bool false) = w9 at *
      have y9 := cell_of_block (i := 9) HB9.out rfl
      have s9 := cell_of_block (i := 4) HH9.out.box rfl
      simp only [List.getElem_toArray, List.getElem_cons_zero, List.getElem_cons_succ] at y9 s9
      go_upto_region 12 with fail
      have HH10 : Hid (HiAt w08 w9 b { goH h d with sleeping := h.sleeping.erase e.page } (.slice al rs.length cl) (.slice asl h.sleeping.length csl) rs) := Lib.hid (by rw [HNE.out]; exact HH9.out)
      have HC910 := Lib.hid (Chg.refl (Mut b (.slice al rs.length cl) (.slice asl h.sleeping.length csl)) w9)
      have HM10 : Hid (∀ k, Mut b (.slice al rs.length cl) (.slice asl h.sleeping.length csl) k → Mut b (.slice al rs.length cl) (.slice asl h.sleeping.length csl) k) := Lib.hid (fun k x => x)
      have HZL : Hid ((h.sleeping.erase e.page).length ≤ 900) := Lib.hid (Nat.le_trans List.length_erase_le HSL.out)
      clear s9 y9
      have hb10 := HC910.out.keep HB9.out HB8N.out
      have y10 := cell_of_block (i := 10) hb10 rfl
      have yf10 := frozen_of_block (i := 10) hb10
      simp only [List.getElem_toArray, List.getElem_cons_zero, List.getElem_cons_succ] at y10
      go_upto_region 13 with fail
      have hb11' := setCell_block (i := 10) (.bool true) hb10
      have hb11 : (w9.setCell ⟨b8, 10, none⟩ (.bool true)).heap[b8]? = some (.cells #[.int .i64 e.id, .int .i64 e.page, .string e.url, .string e.title, .slice qn mn dn, .slice qp mp dp, .int .i64 e.x, .int .i64 e.y, .int .i64 e.page, .bool false, .bool true, .slice none 0 0] 40 (0, 0)) := by simpa using hb11'
      have hc11 : Chg (fun k => k = b8) w9 (w9.setCell ⟨b8, 10, none⟩ (.bool true)) := Chg.setCell w9 ⟨b8, 10, none⟩ _
      have h11 := HH10.out.write hc11 (fun k x => HX9.out k (.inr (.inl x))) (fun k x => by show w08.toWorld.heap.size ≤ k; rw [HW8E.out, show k = b8 from x]; exact HB8S.out.1)
      have HSLP := Lib.hid (sleep_any w08 _ b _ (.slice al rs.length cl) (.slice asl h.sleeping.length csl) rs h11 old (show (h.sleeping.erase e.page).length < 1000 by have := HZL.out; omega))
      have HB11 := Lib.hid hb11
      have HC11 := Lib.hid hc11
      have HMUT := Lib.hid (h11.mutLt)
      clear hb11' hb11 hc11 h11 hb10 y10 yf10
      generalize w9.setCell ⟨b8, 10, none⟩ (.bool true) = w11 at *
      go_upto_region 14 with (go_at_call 41; refine HSLP.out.mono ?_; rintro _ w12 ⟨rfl, vl12, vs12, rs12, h12, hc12, hm12⟩)
      have HMM : Hid (∀ k, Mut b (.slice al rs.length cl) (.slice asl h.sleeping.length csl) k → Mut b (.slice al rs.length cl) (.slice asl h.sleeping.length csl) k) := HM10
      have hml : ∀ k, Mut b (.slice al rs.length cl) (.slice asl h.sleeping.length csl) k → k < w4.heap.size := HH4.out.mutLt
      have h812 : Chg (fun k => Mut b (.slice al rs.length cl) (.slice asl h.sleeping.length csl) k ∨ k = b8) w7 w12 := (((HC79.out.trans HC910.out (fun k _ x => .inr x) (fun k _ x => .inl x)).trans HC11.out (fun _ _ x => x) (fun k _ x => .inr x))).trans hc12 (fun _ _ x => x) (fun k _ x => .inl (HMM.out k x))
      have HB8X := Lib.hid (hc12.keep HB11.out (fun x => HB8N.out (HMM.out b8 x)))
      have HB6X := Lib.hid (h812.keep HB67.out (fun x => x.elim (fun y => by have := HMLT.out b6 y; have := HB6W.out; omega) (fun y => by have := HS5.out; have := HS56.out; have := HS24.out; have := HS2.out; have := HS1.out; omega)))
      have HH12 := Lib.hid h12
      have HC5E := Lib.hid (HC57.out.trans h812 (fun _ _ x => x.elim) (fun k hk x => x.elim (fun y => hml k y) (fun y => by have := HS56.out; omega)))
      have hs711 : w7.heap.size ≤ w11.heap.size := Nat.le_trans (Nat.le_trans HC79.out.size HC910.out.size) HC11.out.size
      have HMU : Hid (∀ k, k < w5.heap.size → Mut b vl12 vs12 k → k < w4.heap.size) := Lib.hid (fun k hk x => hml k (HMM.out k (hm12 k (by have := HC57.out.size; omega) x)))
      have HMW : Hid (∀ k, k < w.heap.size → Mut b vl12 vs12 k → Mut b (.slice al rs.length cl) (.slice asl h.sleeping.length csl) k) := Lib.hid (fun k hk x => HMM.out k (hm12 k (by have := HC47.out.size; have := HC4.out.size; omega) x))
      have HCW := Lib.hid (HCW7.out.trans h812 (fun _ _ x => x) (fun k _ x => x.elim .inl (fun y => .inr (by have := HB8S.out.2; omega))))
      clear h12 hc12 hm12 hml h812 hs711

      have hb6e := HB6X.out
      have hb8e := HB8X.out
      have l0 := cell_of_block (i := 0) hb8e rfl
      have l1 := cell_of_block (i := 1) hb8e rfl
      have l2 := cell_of_block (i := 2) hb8e rfl
      have l3 := cell_of_block (i := 3) hb8e rfl
      have l4 := cell_of_block (i := 4) hb8e rfl
      have l5 := cell_of_block (i := 5) hb8e rfl
      have l6 := cell_of_block (i := 6) hb8e rfl
      have l7 := cell_of_block (i := 7) hb8e rfl
      have l8 := cell_of_block (i := 8) hb8e rfl
      have l9 := cell_of_block (i := 9) hb8e rfl
      have l10 := cell_of_block (i := 10) hb8e rfl
      have l11 := cell_of_block (i := 11) hb8e rfl
      simp only [List.getElem_toArray, List.getElem_cons_zero, List.getElem_cons_succ] at l0 l1 l2 l3 l4 l5 l6 l7 l8 l9 l10 l11
      obtain ⟨z0, q0, z1, q1, z2, q2, z3, q3, z4, q4, z5, q5, z6, q6, z7, q7, z8, q8, z9, q9, z10, q10, z11, q11, hbf, hcs⟩ := store12 hb6e (.int .i64 e.id) (.int .i64 e.page) (.string e.url) (.string e.title) (.slice qn mn dn) (.slice qp mp dp) (.int .i64 e.x) (.int .i64 e.y) (.int .i64 e.page) (.bool false) (.bool true) (.slice none 0 0)
      have HCS := Lib.hid hcs
      clear hcs hb6e hb8e
      go_wp2_with fail
      generalize ((((((((((((w12.setCell ⟨b6, 0, none⟩ (.int .i64 e.id)).setCell ⟨b6, 1, none⟩ (.int .i64 e.page)).setCell ⟨b6, 2, none⟩ (.string e.url)).setCell ⟨b6, 3, none⟩ (.string e.title)).setCell ⟨b6, 4, none⟩ (.slice qn mn dn)).setCell ⟨b6, 5, none⟩ (.slice qp mp dp)).setCell ⟨b6, 6, none⟩ (.int .i64 e.x)).setCell ⟨b6, 7, none⟩ (.int .i64 e.y)).setCell ⟨b6, 8, none⟩ (.int .i64 e.page)).setCell ⟨b6, 9, none⟩ (.bool false)).setCell ⟨b6, 10, none⟩ (.bool true)).setCell ⟨b6, 11, none⟩ (.slice none 0 0)) = wz at *
      refine bodyPost_ret (results_cell_row_tmp48 rfl _ _ b6 #[.int .i64 e.id, .int .i64 e.page, .string e.url, .string e.title, .slice qn mn dn, .slice qp mp dp, .int .i64 e.x, .int .i64 e.y, .int .i64 e.page, .bool false, .bool true, .slice none 0 0] (by rfl) (run_loadVar_row _ b6 40 40 _ _ _ hbf Tryd.underlying40 rfl (by kernel_rfl))) rfl ?_
      rw [HV.out, HN.out]
      have hb6n : ∀ k, k = b6 → w0.heap.size ≤ k ∧ k < w4.heap.size ∧ w.heap.size ≤ k := fun k e => by
        have := HB6W.out
        have := HB0.out
        have := HS24.out
        have := HS2.out
        have := HS1.out
        omega
      have hms : MsgAt (fun k => k < w.heap.size ∨ Mut b vl12 vs12 k) wz (.slice qn mn dn) (.slice qp mp dp) e.msg := by
        refine HM5.out.chg (HC5E.out.trans HCS.out (fun k _ x => x) (fun k _ x => (hb6n k x).2.1)) (fun k _ x => x) (fun k hk x => ?_)
        rcases x with x | x
        · have := HS2.out
          have := HS24.out
          have := HS1.out
          have := HB6W.out
          show k < w4.heap.size
          omega
        · exact HMU.out k hk x
      refine ⟨_, rfl, vl12, vs12, rs12, ?_, ?_, HMW.out, .slice qn mn dn, .slice qp mp dp, .slice none 0 0, rfl, hms, RowAt.nil _ _ _, fun k hk => by simp [Value.ownBlock] at hk⟩
      · refine (HH12.out.write HCS.out (fun k x => HX9.out k (.inl x)) (fun k x => ?_)).shrink HW8E.out (fun k x => HX9.out k (.inr (.inr x)))
        show w08.toWorld.heap.size ≤ k
        rw [HW8E.out]
        exact (hb6n k x).1
      · exact (HCW.out.trans HCS.out (fun k _ x => x) (fun k _ x => .inr (hb6n k x).2.2)).mono (fun k hk x => x.elim id (fun y => by omega))
    · rw [hx] at HIX
      have HIXL := Lib.hid hil
      have HIXE := Lib.hid her
      have HV : Hid (goV h d = ⟨e, e.page, true, true, []⟩) := Lib.hid (by unfold goV; rw [HCE.out, HOLD.out, if_neg HPP.out, decide_eq_true hm])
      have HN : Hid (goM h d = sleepM { goH h d with sleeping := h.sleeping.erase e.page } old) := Lib.hid (by unfold goM; rw [HCE.out, HOLD.out, if_neg HPP.out])
      have ge0 : (0 : Int) ≤ (ix : Int) := by omega
      clear hx her hm hil
      go_upto_region 8 with fail
      clear y8 s7
      refine wp_region_held_split 7 (fun w' => w'.cell? ⟨b, 4, none⟩ = some (.slice asl h.sleeping.length csl) ∧ w'.cell? ⟨b8, 8, none⟩ = some (.int .i64 e.page)) (by kernel_rfl) (by kernel_rfl) ?_ (fun hHeld => ?_)
      · (first | exact HS0.out | exact HKS.out _ (Chg.refl _ _))
      simp only [List.take_succ_cons, List.take_zero]
      have HKS : Hid (∀ W, Chg (fun _ => False) w7.drew W → W.cell? ⟨b, 4, none⟩ = some (.slice asl h.sleeping.length csl) ∧ W.cell? ⟨b8, 8, none⟩ = some (.int .i64 e.page)) := Lib.hid (fun W hc => ⟨hc.cell HS0.out.1, hc.cell HS0.out.2⟩)
      have HWD : Hid (Chg (fun _ => False) w7 w7.drew) := Lib.hid (Chg.refl _ w7).drewR
      generalize w7.drew = wD at *
      refine wpAnyH_take (i := 0) (v := ?_) rfl (by kernel_rfl) (by kernel_rfl) (by kernel_rfl) (fun _ _ _ h => h) (Or.inl ⟨by rfl, ?_⟩) (by assumption) ?_
      rotate_left
      · (intro wq hSw; (try dsimp only at hSw); go_simp; (try with_reducible rfl))
      simp only [Act.put, List.getElem_toArray, List.getElem_cons_zero, List.getElem_cons_succ, List.setIfInBounds_toArray, List.set_cons_zero, List.set_cons_succ]
      refine wpAnyH_take (i := 1) (v := ?_) rfl (by kernel_rfl) (by kernel_rfl) (by kernel_rfl) (fun _ _ _ h => h) (Or.inl ⟨by rfl, ?_⟩) (by assumption) ?_
      rotate_left
      · (intro wq hSw; (try dsimp only at hSw); go_simp; (try with_reducible rfl))
      simp only [Act.put, List.getElem_toArray, List.getElem_cons_zero, List.getElem_cons_succ, List.setIfInBounds_toArray, List.set_cons_zero, List.set_cons_succ]
      refine wpAnyH_take (i := 2) (v := ?_) rfl (by kernel_rfl) (by kernel_rfl) (by kernel_rfl) (fun _ _ _ h => h) (Or.inl ⟨by rfl, ?_⟩) (by assumption) ?_
      rotate_left
      · (intro wq hSw; (try dsimp only at hSw); go_simp; (try with_reducible rfl))
      simp only [Act.put, List.getElem_toArray, List.getElem_cons_zero, List.getElem_cons_succ, List.setIfInBounds_toArray, List.set_cons_zero, List.set_cons_succ]
      refine wpAnyH_take (i := 3) (v := ?_) rfl (by kernel_rfl) (by kernel_rfl) (by kernel_rfl) (fun _ _ _ h => h) (Or.inl ⟨by rfl, ?_⟩) (by assumption) ?_
      rotate_left
      · (intro wq hSw; (try dsimp only at hSw); go_simp; (try with_reducible rfl))
      simp only [Act.put, List.getElem_toArray, List.getElem_cons_zero, List.getElem_cons_succ, List.setIfInBounds_toArray, List.set_cons_zero, List.set_cons_succ]
      refine wpAnyH_take (i := 4) (v := ?_) rfl (by kernel_rfl) (by kernel_rfl) (by kernel_rfl) (fun _ _ _ h => h) (Or.inl ⟨by rfl, ?_⟩) (by assumption) ?_
      rotate_left
      · (intro wq hSw; (try dsimp only at hSw); go_simp; (try with_reducible rfl))
      simp only [Act.put, List.getElem_toArray, List.getElem_cons_zero, List.getElem_cons_succ, List.setIfInBounds_toArray, List.set_cons_zero, List.set_cons_succ]
      refine wpAnyH_take (i := 5) (v := ?_) rfl (by kernel_rfl) (by kernel_rfl) (by kernel_rfl) (fun _ _ _ h => h) (Or.inl ⟨by rfl, ?_⟩) (by assumption) ?_
      rotate_left
      · (intro wq hSw; (try dsimp only at hSw); go_simp; (try with_reducible rfl))
      simp only [Act.put, List.getElem_toArray, List.getElem_cons_zero, List.getElem_cons_succ, List.setIfInBounds_toArray, List.set_cons_zero, List.set_cons_succ]
      refine wpAnyH_ready (rs := [6]) (by kernel_rfl) (by simp) ?_
      refine AllReadyH.cons (by simp only [List.getElem?_toArray, List.getElem?_cons_succ, List.getElem?_cons_zero]; rfl) (fun K hK => ?_) AllReadyH.nil
      (go_simp; go_at_call 39; refine (HIX.out _ HWD.out).mono ?_; rintro _ wi ⟨rfl, rfl⟩; go_simp)
      refine hK.out _ _ ?_ (fun hHeld => ?_)
      · (first | exact HS0.out | exact HKS.out _ (Chg.refl _ _))
      clear hK K
      (try simp only [Act.put, List.getElem_toArray, List.getElem_cons_zero, List.getElem_cons_succ, List.setIfInBounds_toArray, List.set_cons_zero, List.set_cons_succ])
      refine wpAnyH_done (by kernel_rfl) ?_ _
      change wpList _ _ _ _ _ _
      simp only [List.drop_succ_cons, List.drop_zero]
      go_upto_region 9 with fail
      have hd := HWD.out
      have hbD := hd.keep HB8.out (fun x => x)
      have y9 := cell_of_block (i := 9) hbD rfl
      have yf9 := frozen_of_block (i := 9) hbD
      simp only [List.getElem_toArray, List.getElem_cons_zero, List.getElem_cons_succ] at y9
      have hHD := HH7.out.still hd
      have HCD := Lib.hid hd
      clear hd HKS HS0 hHeld
      go_upto_region 10 with fail
      have hb9' := setCell_block (i := 9) (.bool true) hbD
      have hb9 : (wi.setCell ⟨b8, 9, none⟩ (.bool true)).heap[b8]? = some (.cells #[.int .i64 e.id, .int .i64 e.page, .string e.url, .string e.title, .slice qn mn dn, .slice qp mp dp, .int .i64 e.x, .int .i64 e.y, .int .i64 e.page, .bool true, .bool false, .slice none 0 0] 40 (0, 0)) := by simpa using hb9'
      have hc9 : Chg (fun k => k = b8) wi (wi.setCell ⟨b8, 9, none⟩ (.bool true)) := Chg.setCell wi ⟨b8, 9, none⟩ _
      have h9 := hHD.write hc9 (fun k x => HX9.out k (.inr (.inl x))) (fun k x => by show w08.toWorld.heap.size ≤ k; rw [HW8E.out, show k = b8 from x]; exact HB8S.out.1)
      have hC79 := HCD.out.trans hc9 (fun _ _ x => x.elim) (fun k _ x => x)
      have HC79 := Lib.hid hC79
      have HB9 := Lib.hid hb9
      have HH9 := Lib.hid h9
      clear hb9' hb9 hc9 h9 hC79 hHD hbD y9 yf9 HCD HWD
      generalize wi.setCell ⟨b8, 9, none⟩ (.bool true) = w9 at *
      have y9 := cell_of_block (i := 9) HB9.out rfl
      have s9 := cell_of_block (i := 4) HH9.out.box rfl
      simp only [List.getElem_toArray, List.getElem_cons_zero, List.getElem_cons_succ] at y9 s9
      have hde := delI_any w9 _ h.sleeping ix (ix + 1) HH9.out.slp (Nat.lt_succ_self ix) HIXL.out
      rw [HIXE.out] at hde
      have HDE := Lib.hid hde
      clear hde
      have wi : IntKind.i64.wrap ((ix : Int) + 1) = ((ix + 1 : Nat) : Int) := IntWalk.i64_in _ (by have := HIXL.out; have := HSL.out; omega)
      have wi1 : wrap64 ((ix : Int) + 1) = ((ix + 1 : Nat) : Int) := IntWalk.wrap64_in _ (by have := HIXL.out; have := HSL.out; omega)
      have FR : Hid (∀ W1, Chg (fun k => (Value.slice asl h.sleeping.length csl).ownBlock = some k) w9 W1 → (∃ u, W1.cell? ⟨b, 4, none⟩ = some u) ∧ W1.frozen? ⟨b, 4, none⟩ = false) := Lib.hid (fun W1 hc => by
        have hb := hc.keep HH9.out.box HH9.out.sb
        exact ⟨⟨_, cell_of_block (i := 4) hb rfl⟩, frozen_of_block hb⟩)
      have HZL : Hid ((h.sleeping.erase e.page).length ≤ 900) := Lib.hid (Nat.le_trans List.length_erase_le HSL.out)
      go_upto_region 12 with (go_at_call 40; refine HDE.out.mono ?_; rintro _ wd ⟨vd, rfl, hrowd, hchd, holdd⟩; obtain ⟨ad, cd, rfl, -, -⟩ := hrowd.slice; obtain ⟨⟨ud, hud⟩, hfd⟩ := FR.out wd hchd)
      have h10 := HH9.out.resleep hchd (h.sleeping.erase e.page) hrowd (by have := HZL.out; omega) (fun k hk => .inl (holdd k hk))
      have hc910 := hchd.trans (Chg.setCell wd ⟨b, 4, none⟩ (.slice ad (h.sleeping.erase e.page).length cd)) (fun k _ x => (.inr (.inr x) : Mut b (.slice al rs.length cl) (.slice asl h.sleeping.length csl) k)) (fun k _ x => .inl x)
      have HC910 := Lib.hid hc910
      have HM10 : Hid (∀ k, Mut b (.slice al rs.length cl) (.slice ad (h.sleeping.erase e.page).length cd) k → Mut b (.slice al rs.length cl) (.slice asl h.sleeping.length csl) k) := Lib.hid (fun k x => x.elim .inl (fun y => .inr (y.elim .inl (fun z => .inr (holdd k z)))))
      have HH10 := Lib.hid h10
      clear h10 hc910 hrowd hchd holdd hud hfd FR s9 y9 wi wi1 HDE
      generalize wd.setCell ⟨b, 4, none⟩ (.slice ad (h.sleeping.erase e.page).length cd) = w10 at *
      have hb10 := HC910.out.keep HB9.out HB8N.out
      have y10 := cell_of_block (i := 10) hb10 rfl
      have yf10 := frozen_of_block (i := 10) hb10
      simp only [List.getElem_toArray, List.getElem_cons_zero, List.getElem_cons_succ] at y10
      go_upto_region 13 with fail
      have hb11' := setCell_block (i := 10) (.bool true) hb10
      have hb11 : (w10.setCell ⟨b8, 10, none⟩ (.bool true)).heap[b8]? = some (.cells #[.int .i64 e.id, .int .i64 e.page, .string e.url, .string e.title, .slice qn mn dn, .slice qp mp dp, .int .i64 e.x, .int .i64 e.y, .int .i64 e.page, .bool true, .bool true, .slice none 0 0] 40 (0, 0)) := by simpa using hb11'
      have hc11 : Chg (fun k => k = b8) w10 (w10.setCell ⟨b8, 10, none⟩ (.bool true)) := Chg.setCell w10 ⟨b8, 10, none⟩ _
      have h11 := HH10.out.write hc11 (fun k x => HX9.out k (.inr (.inl x))) (fun k x => by show w08.toWorld.heap.size ≤ k; rw [HW8E.out, show k = b8 from x]; exact HB8S.out.1)
      have HSLP := Lib.hid (sleep_any w08 _ b _ (.slice al rs.length cl) (.slice ad (h.sleeping.erase e.page).length cd) rs h11 old (show (h.sleeping.erase e.page).length < 1000 by have := HZL.out; omega))
      have HB11 := Lib.hid hb11
      have HC11 := Lib.hid hc11
      have HMUT := Lib.hid (h11.mutLt)
      clear hb11' hb11 hc11 h11 hb10 y10 yf10
      generalize w10.setCell ⟨b8, 10, none⟩ (.bool true) = w11 at *
      go_upto_region 14 with (go_at_call 41; refine HSLP.out.mono ?_; rintro _ w12 ⟨rfl, vl12, vs12, rs12, h12, hc12, hm12⟩)
      have HMM : Hid (∀ k, Mut b (.slice al rs.length cl) (.slice ad (h.sleeping.erase e.page).length cd) k → Mut b (.slice al rs.length cl) (.slice asl h.sleeping.length csl) k) := HM10
      have hml : ∀ k, Mut b (.slice al rs.length cl) (.slice asl h.sleeping.length csl) k → k < w4.heap.size := HH4.out.mutLt
      have h812 : Chg (fun k => Mut b (.slice al rs.length cl) (.slice asl h.sleeping.length csl) k ∨ k = b8) w7 w12 := (((HC79.out.trans HC910.out (fun k _ x => .inr x) (fun k _ x => .inl x)).trans HC11.out (fun _ _ x => x) (fun k _ x => .inr x))).trans hc12 (fun _ _ x => x) (fun k _ x => .inl (HMM.out k x))
      have HB8X := Lib.hid (hc12.keep HB11.out (fun x => HB8N.out (HMM.out b8 x)))
      have HB6X := Lib.hid (h812.keep HB67.out (fun x => x.elim (fun y => by have := HMLT.out b6 y; have := HB6W.out; omega) (fun y => by have := HS5.out; have := HS56.out; have := HS24.out; have := HS2.out; have := HS1.out; omega)))
      have HH12 := Lib.hid h12
      have HC5E := Lib.hid (HC57.out.trans h812 (fun _ _ x => x.elim) (fun k hk x => x.elim (fun y => hml k y) (fun y => by have := HS56.out; omega)))
      have hs711 : w7.heap.size ≤ w11.heap.size := Nat.le_trans (Nat.le_trans HC79.out.size HC910.out.size) HC11.out.size
      have HMU : Hid (∀ k, k < w5.heap.size → Mut b vl12 vs12 k → k < w4.heap.size) := Lib.hid (fun k hk x => hml k (HMM.out k (hm12 k (by have := HC57.out.size; omega) x)))
      have HMW : Hid (∀ k, k < w.heap.size → Mut b vl12 vs12 k → Mut b (.slice al rs.length cl) (.slice asl h.sleeping.length csl) k) := Lib.hid (fun k hk x => HMM.out k (hm12 k (by have := HC47.out.size; have := HC4.out.size; omega) x))
      have HCW := Lib.hid (HCW7.out.trans h812 (fun _ _ x => x) (fun k _ x => x.elim .inl (fun y => .inr (by have := HB8S.out.2; omega))))
      clear h12 hc12 hm12 hml h812 hs711

      have hb6e := HB6X.out
      have hb8e := HB8X.out
      have l0 := cell_of_block (i := 0) hb8e rfl
      have l1 := cell_of_block (i := 1) hb8e rfl
      have l2 := cell_of_block (i := 2) hb8e rfl
      have l3 := cell_of_block (i := 3) hb8e rfl
      have l4 := cell_of_block (i := 4) hb8e rfl
      have l5 := cell_of_block (i := 5) hb8e rfl
      have l6 := cell_of_block (i := 6) hb8e rfl
      have l7 := cell_of_block (i := 7) hb8e rfl
      have l8 := cell_of_block (i := 8) hb8e rfl
      have l9 := cell_of_block (i := 9) hb8e rfl
      have l10 := cell_of_block (i := 10) hb8e rfl
      have l11 := cell_of_block (i := 11) hb8e rfl
      simp only [List.getElem_toArray, List.getElem_cons_zero, List.getElem_cons_succ] at l0 l1 l2 l3 l4 l5 l6 l7 l8 l9 l10 l11
      obtain ⟨z0, q0, z1, q1, z2, q2, z3, q3, z4, q4, z5, q5, z6, q6, z7, q7, z8, q8, z9, q9, z10, q10, z11, q11, hbf, hcs⟩ := store12 hb6e (.int .i64 e.id) (.int .i64 e.page) (.string e.url) (.string e.title) (.slice qn mn dn) (.slice qp mp dp) (.int .i64 e.x) (.int .i64 e.y) (.int .i64 e.page) (.bool true) (.bool true) (.slice none 0 0)
      have HCS := Lib.hid hcs
      clear hcs hb6e hb8e
      go_wp2_with fail
      generalize ((((((((((((w12.setCell ⟨b6, 0, none⟩ (.int .i64 e.id)).setCell ⟨b6, 1, none⟩ (.int .i64 e.page)).setCell ⟨b6, 2, none⟩ (.string e.url)).setCell ⟨b6, 3, none⟩ (.string e.title)).setCell ⟨b6, 4, none⟩ (.slice qn mn dn)).setCell ⟨b6, 5, none⟩ (.slice qp mp dp)).setCell ⟨b6, 6, none⟩ (.int .i64 e.x)).setCell ⟨b6, 7, none⟩ (.int .i64 e.y)).setCell ⟨b6, 8, none⟩ (.int .i64 e.page)).setCell ⟨b6, 9, none⟩ (.bool true)).setCell ⟨b6, 10, none⟩ (.bool true)).setCell ⟨b6, 11, none⟩ (.slice none 0 0)) = wz at *
      refine bodyPost_ret (results_cell_row_tmp48 rfl _ _ b6 #[.int .i64 e.id, .int .i64 e.page, .string e.url, .string e.title, .slice qn mn dn, .slice qp mp dp, .int .i64 e.x, .int .i64 e.y, .int .i64 e.page, .bool true, .bool true, .slice none 0 0] (by rfl) (run_loadVar_row _ b6 40 40 _ _ _ hbf Tryd.underlying40 rfl (by kernel_rfl))) rfl ?_
      rw [HV.out, HN.out]
      have hb6n : ∀ k, k = b6 → w0.heap.size ≤ k ∧ k < w4.heap.size ∧ w.heap.size ≤ k := fun k e => by
        have := HB6W.out
        have := HB0.out
        have := HS24.out
        have := HS2.out
        have := HS1.out
        omega
      have hms : MsgAt (fun k => k < w.heap.size ∨ Mut b vl12 vs12 k) wz (.slice qn mn dn) (.slice qp mp dp) e.msg := by
        refine HM5.out.chg (HC5E.out.trans HCS.out (fun k _ x => x) (fun k _ x => (hb6n k x).2.1)) (fun k _ x => x) (fun k hk x => ?_)
        rcases x with x | x
        · have := HS2.out
          have := HS24.out
          have := HS1.out
          have := HB6W.out
          show k < w4.heap.size
          omega
        · exact HMU.out k hk x
      refine ⟨_, rfl, vl12, vs12, rs12, ?_, ?_, HMW.out, .slice qn mn dn, .slice qp mp dp, .slice none 0 0, rfl, hms, RowAt.nil _ _ _, fun k hk => by simp [Value.ownBlock] at hk⟩
      · refine (HH12.out.write HCS.out (fun k x => HX9.out k (.inl x)) (fun k x => ?_)).shrink HW8E.out (fun k x => HX9.out k (.inr (.inr x)))
        show w08.toWorld.heap.size ≤ k
        rw [HW8E.out]
        exact (hb6n k x).1
      · exact (HCW.out.trans HCS.out (fun k _ x => x) (fun k _ x => .inr (hb6n k x).2.2)).mono (fun k hk x => x.elim id (fun y => by omega))
end Go.Proofs.YtiecgbmeobpomaaDoor
namespace Go.Proofs.YtiecgbmeobpomaaDoor
open Go.RowKit
set_option linter.unusedVariables false
set_option linter.unusedSimpArgs false

set_option maxHeartbeats 6400000 in
set_option maxRecDepth 100000 in
theorem go_bad (w0 : Past) (w : World) (b : Nat) (h : Hist) (vl vs : Value) (rs : List EntR) (H : HiAt w0 w b h vl vs rs) (d : Int) (hd : ¬ GoOk h d) (hl : h.list.length ≤ 60) :
    Calls Tryd.prog 20 #[.pointer (some ⟨b, 0, none⟩), .int .i64 d] w fun z w' => ∃ zv, z = .returned (.tuple #[zv, .int .i64 2]) ∧ OpV w0 w b (Mut b vl vs) h Mv0 zv w' := by
  have HB0 : Hid (w0.heap.size ≤ w.heap.size) := Lib.hid H.chg.size
  obtain ⟨w06, hw6e, hx6, H1⟩ := H.beside (.cells #[.int .i64 0, .int .i64 0, .string ⟨#[]⟩, .string ⟨#[]⟩, .slice none 0 0, .slice none 0 0, .int .i64 0, .int .i64 0, .int .i64 0, .bool false, .bool false, .slice none 0 0] 40)
  have HW6E := Lib.hid hw6e
  have HX6 := Lib.hid hx6
  have HB6 := Lib.hid (alloc_block w (.cells #[.int .i64 0, .int .i64 0, .string ⟨#[]⟩, .string ⟨#[]⟩, .slice none 0 0, .slice none 0 0, .int .i64 0, .int .i64 0, .int .i64 0, .bool false, .bool false, .slice none 0 0] 40))
  have HC1 := Lib.hid (Chg.alloc (fun _ => False) w (.cells #[.int .i64 0, .int .i64 0, .string ⟨#[]⟩, .string ⟨#[]⟩, .slice none 0 0, .slice none 0 0, .int .i64 0, .int .i64 0, .int .i64 0, .bool false, .bool false, .slice none 0 0] 40))
  have HH1 := Lib.hid H1
  have d0 := cell_of_block (i := 0) H1.box rfl
  have d1 := cell_of_block (i := 1) H1.box rfl
  simp only [List.getElem_toArray, List.getElem_cons_zero, List.getElem_cons_succ] at d0 d1
  have wn : IntKind.i64.wrap (-(h.at_ : Int)) = -(h.at_ : Int) := IntWalk.i64_in _ (by have := H.ok; omega)
  have wl : IntKind.i64.wrap ((rs.length : Int) - 1) = (rs.length : Int) - 1 := IntWalk.i64_in _ (by have := H.len; omega)
  have wla : IntKind.i64.wrap ((rs.length : Int) - 1 - (h.at_ : Int)) = (rs.length : Int) - 1 - (h.at_ : Int) := IntWalk.i64_in _ (by have := H.len; have := H.ok; omega)
  have wn' : wrap64 (-(h.at_ : Int)) = -(h.at_ : Int) := IntWalk.wrap64_in _ (by have := H.ok; omega)
  have wl' : wrap64 ((rs.length : Int) - 1) = (rs.length : Int) - 1 := IntWalk.wrap64_in _ (by have := H.len; omega)
  have wla' : wrap64 ((rs.length : Int) - 1 - (h.at_ : Int)) = (rs.length : Int) - 1 - (h.at_ : Int) := IntWalk.wrap64_in _ (by have := H.len; have := H.ok; omega)
  have HRL := Lib.hid H.len
  obtain ⟨al, cl, rfl, -, -⟩ := H.row.slice
  have hgo := hd
  unfold GoOk at hgo
  rw [← H.len] at hgo
  clear H H1 hw6e hx6 hl hd
  by_cases n1 : d < -(h.at_ : Int)
  · clear hgo
    go_enter Tryd.func20, Tryd.ntmps20
    go_upto_region 1 with fail
    generalize w.alloc (.cells #[.int .i64 0, .int .i64 0, .string ⟨#[]⟩, .string ⟨#[]⟩, .slice none 0 0, .slice none 0 0, .int .i64 0, .int .i64 0, .int .i64 0, .bool false, .bool false, .slice none 0 0] 40) = w1 at *
    generalize hb6 : w.heap.size = b6 at HB6 HX6 ⊢
    have HB6W := Lib.hid hb6
    clear hb6
    go_quiet (fail)
    go_upto_region 2 with fail
    have hcq := Chg.drewN (fun _ => False) w1 nq
    generalize w1.drewN nq = wq at *
    have hb6e := hcq.keep HB6.out (fun x => x)
    obtain ⟨z0, q0, z1, q1, z2, q2, z3, q3, z4, q4, z5, q5, z6, q6, z7, q7, z8, q8, z9, q9, z10, q10, z11, q11, hbf, hcs⟩ := store12 hb6e (.int .i64 0) (.int .i64 0) (.string ⟨#[]⟩) (.string ⟨#[]⟩) (.slice none 0 0) (.slice none 0 0) (.int .i64 0) (.int .i64 0) (.int .i64 0) (.bool false) (.bool false) (.slice none 0 0)
    have HCS := Lib.hid hcs
    have HCQ := Lib.hid hcq
    clear hcs hb6e hcq
    go_wp2_with fail
    generalize ((((((((((((wq.setCell ⟨b6, 0, none⟩ (.int .i64 0)).setCell ⟨b6, 1, none⟩ (.int .i64 0)).setCell ⟨b6, 2, none⟩ (.string ⟨#[]⟩)).setCell ⟨b6, 3, none⟩ (.string ⟨#[]⟩)).setCell ⟨b6, 4, none⟩ (.slice none 0 0)).setCell ⟨b6, 5, none⟩ (.slice none 0 0)).setCell ⟨b6, 6, none⟩ (.int .i64 0)).setCell ⟨b6, 7, none⟩ (.int .i64 0)).setCell ⟨b6, 8, none⟩ (.int .i64 0)).setCell ⟨b6, 9, none⟩ (.bool false)).setCell ⟨b6, 10, none⟩ (.bool false)).setCell ⟨b6, 11, none⟩ (.slice none 0 0)) = wz at *
    refine bodyPost_ret (results_cell_row_tmp48 rfl _ _ b6 #[.int .i64 0, .int .i64 0, .string ⟨#[]⟩, .string ⟨#[]⟩, .slice none 0 0, .slice none 0 0, .int .i64 0, .int .i64 0, .int .i64 0, .bool false, .bool false, .slice none 0 0] (by rfl) (run_loadVar_row _ b6 40 40 _ _ _ hbf Tryd.underlying40 rfl (by kernel_rfl))) rfl ?_
    have hb6n : ∀ k, k = b6 → w0.heap.size ≤ k ∧ w.heap.size ≤ k := fun k e => by
      have := HB6W.out
      have := HB0.out
      omega
    refine ⟨_, rfl, _, _, _, ((HH1.out.still HCQ.out).write HCS.out (fun k x => (HX6.out k).2 (.inr x)) (fun k x => ?_)).shrink HW6E.out (fun k x => (HX6.out k).2 (.inl x)), ?_, fun k _ x => x, MvAt.zero _ _⟩
    · show w06.toWorld.heap.size ≤ k
      rw [HW6E.out]
      exact (hb6n k x).1
    · exact ((HC1.out.trans' HCQ.out).trans HCS.out (fun k _ x => x.elim) (fun k hk x => by have := (hb6n k x).2; omega))
  · have n2 : (rs.length : Int) - 1 - (h.at_ : Int) < d := by omega
    clear hgo
    go_enter Tryd.func20, Tryd.ntmps20
    go_upto_region 1 with fail
    generalize w.alloc (.cells #[.int .i64 0, .int .i64 0, .string ⟨#[]⟩, .string ⟨#[]⟩, .slice none 0 0, .slice none 0 0, .int .i64 0, .int .i64 0, .int .i64 0, .bool false, .bool false, .slice none 0 0] 40) = w1 at *
    generalize hb6 : w.heap.size = b6 at HB6 HX6 ⊢
    have HB6W := Lib.hid hb6
    clear hb6
    go_quiet (fail)
    go_upto_region 2 with fail
    have hcq := Chg.drewN (fun _ => False) w1 nq
    generalize w1.drewN nq = wq at *
    have hb6e := hcq.keep HB6.out (fun x => x)
    obtain ⟨z0, q0, z1, q1, z2, q2, z3, q3, z4, q4, z5, q5, z6, q6, z7, q7, z8, q8, z9, q9, z10, q10, z11, q11, hbf, hcs⟩ := store12 hb6e (.int .i64 0) (.int .i64 0) (.string ⟨#[]⟩) (.string ⟨#[]⟩) (.slice none 0 0) (.slice none 0 0) (.int .i64 0) (.int .i64 0) (.int .i64 0) (.bool false) (.bool false) (.slice none 0 0)
    have HCS := Lib.hid hcs
    have HCQ := Lib.hid hcq
    clear hcs hb6e hcq
    go_wp2_with fail
    generalize ((((((((((((wq.setCell ⟨b6, 0, none⟩ (.int .i64 0)).setCell ⟨b6, 1, none⟩ (.int .i64 0)).setCell ⟨b6, 2, none⟩ (.string ⟨#[]⟩)).setCell ⟨b6, 3, none⟩ (.string ⟨#[]⟩)).setCell ⟨b6, 4, none⟩ (.slice none 0 0)).setCell ⟨b6, 5, none⟩ (.slice none 0 0)).setCell ⟨b6, 6, none⟩ (.int .i64 0)).setCell ⟨b6, 7, none⟩ (.int .i64 0)).setCell ⟨b6, 8, none⟩ (.int .i64 0)).setCell ⟨b6, 9, none⟩ (.bool false)).setCell ⟨b6, 10, none⟩ (.bool false)).setCell ⟨b6, 11, none⟩ (.slice none 0 0)) = wz at *
    refine bodyPost_ret (results_cell_row_tmp48 rfl _ _ b6 #[.int .i64 0, .int .i64 0, .string ⟨#[]⟩, .string ⟨#[]⟩, .slice none 0 0, .slice none 0 0, .int .i64 0, .int .i64 0, .int .i64 0, .bool false, .bool false, .slice none 0 0] (by rfl) (run_loadVar_row _ b6 40 40 _ _ _ hbf Tryd.underlying40 rfl (by kernel_rfl))) rfl ?_
    have hb6n : ∀ k, k = b6 → w0.heap.size ≤ k ∧ w.heap.size ≤ k := fun k e => by
      have := HB6W.out
      have := HB0.out
      omega
    refine ⟨_, rfl, _, _, _, ((HH1.out.still HCQ.out).write HCS.out (fun k x => (HX6.out k).2 (.inr x)) (fun k x => ?_)).shrink HW6E.out (fun k x => (HX6.out k).2 (.inl x)), ?_, fun k _ x => x, MvAt.zero _ _⟩
    · show w06.toWorld.heap.size ≤ k
      rw [HW6E.out]
      exact (hb6n k x).1
    · exact ((HC1.out.trans' HCQ.out).trans HCS.out (fun k _ x => x.elim) (fun k hk x => by have := (hb6n k x).2; omega))
end Go.Proofs.YtiecgbmeobpomaaDoor
namespace Go.Proofs.YtiecgbmeobpomaaDoor
open Go Go.Proofs Go.Shelf Go.RowKit
set_option linter.unusedVariables false
set_option linter.unusedSimpArgs false

theorem chg_of_below {w w' : World} (h : Below w.heap.size w w') : Chg (fun _ => False) w w' := ⟨h.os, h.tape, h.output, h.size, fun k hk _ => h.block k hk⟩
def sh_lays169_ren : Go.Shelf.Ren := ⟨fun | 169 => 104 | n => n, fun | 70 => 147 | 9 => 9 | 0 => 0 | 72 => 149 | 37 => 136 | 127 => 161 | 3 => 3 | 5 => 5 | n => n, fun | n => n⟩
theorem sh_lays169 : Go.Proofs.Lays.n169 Tryd.prog sh_lays169_ren := {
  mixed := by kernel_rfl
  f169 := Tryd.func104.trans (congrArg some (by kernel_rfl))
  t0 := Tryd.underlying0
  a0 := Tryd.isAgg0
  z0 := Tryd.sizeOf0
  v0 := Tryd.zeroValue0
  t3 := Tryd.underlying3
  a3 := Tryd.isAgg3
  z3 := Tryd.sizeOf3
  v3 := Tryd.zeroValue3
  t9 := Tryd.underlying9
  a9 := Tryd.isAgg9
  z9 := Tryd.sizeOf9
  v9 := Tryd.zeroValue9
  t37 := Tryd.underlying136
  a37 := Tryd.isAgg136
  z37 := Tryd.sizeOf136
  v37 := Tryd.zeroValue136
  t70 := Tryd.underlying147
  a70 := Tryd.isAgg147
  z70 := Tryd.sizeOf147
  v70 := Tryd.zeroValue147
  t72 := Tryd.underlying149
  a72 := Tryd.isAgg149
  z72 := Tryd.sizeOf149
  v72 := Tryd.zeroValue149
  t127 := Tryd.underlying161
  a127 := Tryd.isAgg161
  z127 := Tryd.sizeOf161
  v127 := Tryd.zeroValue161 }
theorem sh_Builder_Extra_169 : Builder.Extra Tryd.prog sh_lays169_ren := {
  sizeBuilder := by kernel_rfl
  liesBuilder := by kernel_rfl
  t5 := Tryd.underlying5
  a5 := Tryd.isAgg5
  z5 := Tryd.sizeOf5
  v5 := Tryd.zeroValue5
  infoByte := by kernel_rfl
  cellsByte := by kernel_rfl
  sizeByte := by kernel_rfl
  neB5 := by decide }
def sh_lays196_ren : Go.Shelf.Ren := ⟨fun | 196 => 102 | 259 => 105 | n => n, fun | 9 => 9 | 4 => 4 | 3 => 3 | 5 => 5 | 12 => 12 | 119 => 156 | 0 => 0 | 46 => 97 | 139 => 159 | 138 => 158 | 53 => 121 | n => n, fun | 3 => 0 | 4 => 1 | n => n⟩
theorem sh_lays196 : Go.Proofs.Lays.n196 Tryd.prog sh_lays196_ren := {
  mixed := by kernel_rfl
  f196 := Tryd.func102.trans (congrArg some (by kernel_rfl))
  f259 := Tryd.func105.trans (congrArg some (by kernel_rfl))
  t0 := Tryd.underlying0
  a0 := Tryd.isAgg0
  z0 := Tryd.sizeOf0
  v0 := Tryd.zeroValue0
  t3 := Tryd.underlying3
  a3 := Tryd.isAgg3
  z3 := Tryd.sizeOf3
  v3 := Tryd.zeroValue3
  t4 := Tryd.underlying4
  a4 := Tryd.isAgg4
  z4 := Tryd.sizeOf4
  v4 := Tryd.zeroValue4
  t5 := Tryd.underlying5
  a5 := Tryd.isAgg5
  z5 := Tryd.sizeOf5
  v5 := Tryd.zeroValue5
  t9 := Tryd.underlying9
  a9 := Tryd.isAgg9
  z9 := Tryd.sizeOf9
  v9 := Tryd.zeroValue9
  t12 := Tryd.underlying12
  a12 := Tryd.isAgg12
  z12 := Tryd.sizeOf12
  v12 := Tryd.zeroValue12
  t46 := Tryd.underlying97
  a46 := Tryd.isAgg97
  z46 := Tryd.sizeOf97
  v46 := Tryd.zeroValue97
  t53 := Tryd.underlying121
  a53 := Tryd.isAgg121
  z53 := Tryd.sizeOf121
  v53 := Tryd.zeroValue121
  t119 := Tryd.underlying156
  a119 := Tryd.isAgg156
  z119 := Tryd.sizeOf156
  t138 := Tryd.underlying158
  a138 := Tryd.isAgg158
  z138 := Tryd.sizeOf158
  v138 := Tryd.zeroValue158
  t139 := Tryd.underlying159
  a139 := Tryd.isAgg159
  z139 := Tryd.sizeOf159
  v139 := Tryd.zeroValue159
  g3 := by kernel_rfl
  g4 := by kernel_rfl }
def sh_lays242_ren : Go.Shelf.Ren := ⟨fun | 242 => 107 | 278 => 109 | n => n, fun | 37 => 136 | 21 => 21 | 51 => 119 | 4 => 4 | 5 => 5 | 46 => 97 | 72 => 149 | 70 => 147 | n => n, fun | n => n⟩
theorem sh_lays242 : Go.Proofs.Lays.n242 Tryd.prog sh_lays242_ren := {
  mixed := by kernel_rfl
  f242 := Tryd.func107.trans (congrArg some (by kernel_rfl))
  f278 := Tryd.func109.trans (congrArg some (by kernel_rfl))
  t4 := Tryd.underlying4
  a4 := Tryd.isAgg4
  z4 := Tryd.sizeOf4
  v4 := Tryd.zeroValue4
  t5 := Tryd.underlying5
  a5 := Tryd.isAgg5
  z5 := Tryd.sizeOf5
  v5 := Tryd.zeroValue5
  t21 := Tryd.underlying21
  a21 := Tryd.isAgg21
  z21 := Tryd.sizeOf21
  v21 := Tryd.zeroValue21
  t37 := Tryd.underlying136
  a37 := Tryd.isAgg136
  z37 := Tryd.sizeOf136
  v37 := Tryd.zeroValue136
  t46 := Tryd.underlying97
  a46 := Tryd.isAgg97
  z46 := Tryd.sizeOf97
  v46 := Tryd.zeroValue97
  t51 := Tryd.underlying119
  a51 := Tryd.isAgg119
  z51 := Tryd.sizeOf119
  v51 := Tryd.zeroValue119 }
open Go.RowKit in
theorem sh_Builder_String_any_k (B b : Nat) (l : List UInt8) (w : World) (h : Lib.IsBuilderF 149 5 B b (Lib.byteCells l) w) (hBw : B ≤ w.heap.size) :
    Calls Tryd.prog 104 #[.pointer (some ⟨b, 0, none⟩)] w fun e w' => e = .returned (.string ⟨l.toArray⟩) ∧ (Lib.IsBuilderF 149 5 B b (Lib.byteCells l) w' ∧ Below B w w' ∧ Lib.OthersKept 5 (some b) w w') := Any.Builder_String_any_k sh_lays169 sh_Builder_Extra_169 B b l w h hBw
theorem sh_Builder_Extra_242 : Builder.Extra Tryd.prog sh_lays242_ren := {
  sizeBuilder := by kernel_rfl
  liesBuilder := by kernel_rfl
  t5 := Tryd.underlying5
  a5 := Tryd.isAgg5
  z5 := Tryd.sizeOf5
  v5 := Tryd.zeroValue5
  infoByte := by kernel_rfl
  cellsByte := by kernel_rfl
  sizeByte := by kernel_rfl
  neB5 := by decide }
theorem appendRune_own (B : Nat) (v : Value) (n : Nat) (xs : List Value) (r : Int) (hr0 : -2147483648 ≤ r) (hr1 : r ≤ 2147483647) (w : World) (hown : w.ownsRowF B 5 1 v n xs) (hlen : n + 4 ≤ 140737488355328) (hBw : B ≤ w.heap.size) :
    Calls Tryd.prog 107 #[v, .int .i32 r] w fun e w' => ∃ v', e = .returned v' ∧ w'.ownsRowF B 5 1 v' (n + (Lib.runeCells r).length) (xs ++ Lib.runeCells r) ∧ ∃ o, (w.alloc o).grownBy w' v.ownBlock :=
  Any.utf8_AppendRune_own sh_lays242 sh_Builder_Extra_242 B v n xs r hr0 hr1 w hown hlen hBw
theorem sh_valid (s : ByteArray) (w : World) (hs : s.size ≤ 9223372036854775807) (hT : Lib.Utf8Tabs 0 1 w) :
    Calls Tryd.prog 102 #[.string s] w fun e w' => e = .returned (.bool (Lib.validD s.data.toList)) ∧ Below w.heap.size w w' :=
  Any.utf8_ValidString sh_lays196 s w hs hT
set_option maxHeartbeats 1000000 in
set_option maxRecDepth 100000 in
theorem copyCheck_used (b : Nat) (w : World) (h0 : w.cell? ⟨b, 0, none⟩ = some (.pointer (some ⟨b, 0, none⟩))) :
    Calls Tryd.prog 106 #[.pointer (some ⟨b, 0, none⟩)] w fun e w' => e = .returned (.tuple #[]) ∧ w' = w := by
  obtain ⟨j, hj, hjs⟩ := Option.map_eq_some_iff.1 sh_Builder_Extra_242.sizeBuilder
  go_enter Tryd.func106, Tryd.ntmps106
  go_wp2_with fail
  rw [Lib.run_neq_ptr_same w _ Tryd.underlying147 hj]
  go_wp2_with fail
  go_end0
  exact ⟨rfl, rfl⟩
set_option maxHeartbeats 1000000 in
set_option maxRecDepth 100000 in
theorem copyCheck_fresh (b : Nat) (w : World) (h0 : w.cell? ⟨b, 0, none⟩ = some (.pointer none)) (hsh : w.shape? b = some (149, 2)) (hfz : w.frozen? ⟨b, 0, none⟩ = false) :
    Calls Tryd.prog 106 #[.pointer (some ⟨b, 0, none⟩)] w fun e w' => e = .returned (.tuple #[]) ∧ w' = w.setCell ⟨b, 0, none⟩ (.pointer (some ⟨b, 0, none⟩)) := by
  obtain ⟨j, hj, hjs⟩ := Option.map_eq_some_iff.1 sh_Builder_Extra_242.sizeBuilder
  go_enter Tryd.func106, Tryd.ntmps106
  go_wp2_with fail
  rw [Lib.run_to_unsafe w ⟨b, 0, none⟩ Tryd.underlying147 Tryd.underlying162 hj (by rw [hjs]; decide) hsh (Nat.zero_lt_succ 1)]
  simp only [Result.andThen]
  rw [Oper.upon_value]
  go_wp2_with fail
  rw [run_callFunc_extern Tryd.func108 (by kernel_rfl) (by kernel_rfl) (by kernel_rfl) (e := Extern.AbiNoEscape.same) (by kernel_rfl)]
  rw [Lib.run_noEscape]
  simp only [Result.andThen]
  rw [Oper.upon_value]
  go_wp2_with fail
  rw [Lib.run_from_unsafe w ⟨b, 0, none⟩ Tryd.underlying162 Tryd.underlying147 hj hsh sh_Builder_Extra_242.liesBuilder]
  simp only [Result.andThen]
  rw [Oper.upon_value]
  go_wp2_with fail
  go_end0
  exact ⟨rfl, rfl⟩
theorem copyCheck_k (B b : Nat) (bs : List Value) (w : World) (h : Lib.IsBuilderF 149 5 B b bs w) :
    Calls Tryd.prog 106 #[.pointer (some ⟨b, 0, none⟩)] w fun e w' => e = .returned (.tuple #[]) ∧ (Lib.BuilderAtF 149 5 B b (.pointer (some ⟨b, 0, none⟩)) bs w' ∧ Below B w w' ∧ Lib.OthersKept 5 (some b) w w') := by
  rcases h with h | h
  · refine (copyCheck_fresh b w h.cell0 h.shape h.frozen0).mono ?_
    rintro e w' ⟨rfl, rfl⟩
    exact ⟨rfl, h.used _, (Below.refl B w).setCell (p := ⟨b, 0, none⟩) h.1 _, (Lib.OthersKept.refl _ _ w).setCell ⟨b, 0, none⟩ rfl _⟩
  · refine (copyCheck_used b w h.cell0).mono ?_
    rintro e w' ⟨rfl, rfl⟩
    exact ⟨rfl, h, Below.refl B _, Lib.OthersKept.refl _ _ _⟩
set_option maxHeartbeats 4000000 in
set_option maxRecDepth 100000 in
theorem writeRune_k (B b : Nat) (bs : List Value) (r : Int) (hr0 : -2147483648 ≤ r) (hr1 : r ≤ 2147483647) (w : World) (h : Lib.IsBuilderF 149 5 B b bs w) (hlen : bs.length + 4 ≤ 140737488355328) (hBw : B ≤ w.heap.size) :
    Calls Tryd.prog 103 #[.pointer (some ⟨b, 0, none⟩), .int .i32 r] w fun e w' => e = .returned (.tuple #[.int .i64 (Lib.runeCells r).length, .nilIface]) ∧ (Lib.BuilderAtF 149 5 B b (.pointer (some ⟨b, 0, none⟩)) (bs ++ Lib.runeCells r) w' ∧ Below B w w' ∧ Lib.OthersKept 5 (some b) w w') := by
  have hk4 := Lib.runeCells_le r
  go_enter Tryd.func103, Tryd.ntmps103
  go_wp2_with (go_at_call 106; refine (copyCheck_k B b bs _ h).mono ?_)
  rintro e w1 ⟨rfl, h1, hb1, hk1⟩
  obtain ⟨hB, v, hbk, hown, hne⟩ := h1
  obtain ⟨ao, cap, rfl⟩ : ∃ ao cap, v = .slice ao bs.length cap := by
    rcases hown.2 with ⟨hv, h0⟩ | ⟨g, cap, cur, fz, hv, _⟩
    · exact ⟨none, 0, by rw [hv, h0]⟩
    · exact ⟨_, _, hv⟩
  have c0 : w1.cell? ⟨b, 0, none⟩ = some (.pointer (some ⟨b, 0, none⟩)) := by rw [Lib.cell_of_heap hbk]; rfl
  have c1 : w1.cell? ⟨b, 1, none⟩ = some (.slice ao bs.length cap) := by rw [Lib.cell_of_heap hbk]; rfl
  go_wp2_with (go_at_call 107; refine (appendRune_own B _ bs.length bs r hr0 hr1 _ hown hlen (by have := hb1.size; omega)).mono ?_)
  rintro e w2 ⟨v', rfl, hown', o, hgrow⟩
  have hlt : b < w1.heap.size := by
    rcases Nat.lt_or_ge b w1.heap.size with h' | h'
    · exact h'
    · simp [Array.getElem?_eq_none h'] at hbk
  have hb2 : w2.heap[b]? = some (.cells #[.pointer (some ⟨b, 0, none⟩), .slice ao bs.length cap] 149 (0, 0)) := by
    rw [hgrow.block b (by simp; omega) (fun e => hne e.symm), Lib.alloc_old w1 _ b hlt]
    exact hbk
  have d0 : w2.cell? ⟨b, 0, none⟩ = some (.pointer (some ⟨b, 0, none⟩)) := by rw [Lib.cell_of_heap hb2]; rfl
  have d1 : w2.cell? ⟨b, 1, none⟩ = some (.slice ao bs.length cap) := by rw [Lib.cell_of_heap hb2]; rfl
  have f1 : w2.frozen? ⟨b, 1, none⟩ = false := Lib.frozen_of_heap hb2 1
  obtain ⟨g, cap', rfl⟩ : ∃ g cap', v' = .slice (some ⟨g, 0, none⟩) (bs.length + (Lib.runeCells r).length) cap' := by
    rcases hown'.2 with ⟨_, h0⟩ | ⟨g, cap', cur, fz, hv, _⟩
    · omega
    · exact ⟨g, cap', hv⟩
  go_wp2_with fail
  go_ret2
  refine ⟨?_, ?_, ?_, ((hk1.alloc _).grown hgrow (Lib.ownsRowF_kind (hown.alloc _))).setCell ⟨b, 1, none⟩ rfl _⟩
  · have e : ((bs.length : Int) + ((Lib.runeCells r).length : Int) - (bs.length : Int)) = ((Lib.runeCells r).length : Int) := by omega
    simp [e]
  · exact Lib.BuilderAtF.put (T := 149) (e := 5) hB hb2 (bs' := bs ++ Lib.runeCells r) (by simpa using hown') sh_Builder_Extra_242.neB5
  · exact ((hb1.alloc (by have := hb1.size; omega) _).grown hgrow (by have := hb1.size; simp; omega) (fun k hk => (hown.lt k hk).1)).setCell (p := ⟨b, 1, none⟩) hB _
end Go.Proofs.YtiecgbmeobpomaaDoor
namespace Go.Proofs.YtiecgbmeobpomaaDoor
open Go.RowKit
set_option linter.unusedVariables false
set_option linter.unusedSimpArgs false

/-- The runes from a place on, written anew. -/
def repFrom (s : ByteArray) : Nat → Nat → List UInt8
  | 0, _ => []
  | fuel + 1, pos => if pos < s.size then Lib.encodeRune (Utf8.decode s pos).1 ++ repFrom s fuel (pos + (Utf8.decode s pos).2) else []
def repB (s : ByteArray) : List UInt8 := repFrom s s.size 0
def repairM (s : ByteArray) : ByteArray := if Lib.validD s.data.toList = true then s else ⟨(repB s).toArray⟩
theorem width_pos (s : ByteArray) (pos : Nat) (h : pos < s.size) : 1 ≤ (Utf8.decode s pos).2 := by
  by_cases ha : (s[pos]'h).toNat < 128
  · rw [decode_ascii s pos h ha]
    exact Nat.le_refl _
  · exact (decode_high s pos h (by omega)).2
theorem repFrom_end (s : ByteArray) (fuel pos : Nat) (h : ¬ pos < s.size) : repFrom s fuel pos = [] := by
  cases fuel with
  | zero => rfl
  | succ f => simp [repFrom, h]
set_option maxHeartbeats 4000000 in
set_option maxRecDepth 1000000 in
theorem repair_any (s : ByteArray) (w : World) (hs : s.size ≤ 35184372088832) (hT : Lib.Utf8Tabs 0 1 w) :
    Calls Tryd.prog 101 #[.string s] w fun e w' => e = .returned (.string (repairM s)) ∧ Chg (fun _ => False) w w' := by
  have HV := Lib.hid (sh_valid s w (by omega) hT)
  clear hT
  by_cases hv : Lib.validD s.data.toList = true
  · have hr : repairM s = s := if_pos hv
    rw [hr]
    rw [hv] at HV
    clear hv hr
    go_enter Tryd.func101, Tryd.ntmps101
    go_wp2_with (go_at_call 102; refine HV.out.mono ?_; rintro e w1 ⟨rfl, hb1⟩)
    go_ret
    exact ⟨rfl, chg_of_below hb1⟩
  · have hr : repairM s = ⟨(repB s).toArray⟩ := if_neg hv
    rw [hr]
    rw [Bool.not_eq_true] at hv
    rw [hv] at HV
    clear hv hr
    go_enter Tryd.func101, Tryd.ntmps101
    go_upto_region 4 with (go_at_call 102; refine HV.out.mono ?_; rintro e w1 ⟨rfl, hb1⟩)
    have HC1 := Lib.hid (chg_of_below hb1)
    clear hb1 HV
    go_wp2_with fail
    go_loopw [5] (fun _ wr => ∃ (pos fuel : Nat) (acc : List UInt8), Lib.IsBuilderF 149 5 w1.heap.size w1.heap.size (Lib.byteCells acc) wr ∧ wr.heap[w1.heap.size + 1]? = some (.stringIter s pos) ∧ Below w1.heap.size w1 wr ∧ acc ++ repFrom s fuel pos = repB s ∧ s.size ≤ pos + fuel ∧ acc.length ≤ 4 * pos) (fun _ wr => s.size - wr.iterPos (w1.heap.size + 1))
    case atStart =>
      refine ⟨0, s.size, [], (Lib.IsBuilderF.of (Lib.fresh_isBuilder 149 5 w1)).alloc _, ?_, ((Below.refl _ w1).alloc (Nat.le_refl _) _).alloc (by simp) _, rfl, by omega, by simp⟩
      have := World.iter_heap (w1.alloc (.cells #[.pointer none, .slice none 0 0] 149)) s 0
      simpa using this
    case round =>
      obtain ⟨pos, fuel, acc, hI, hit, hbw, hacc, hfu, hal⟩ := hrel
      have hsz : w1.heap.size + 1 < wr.heap.size := (Array.getElem?_eq_some_iff.1 hit).1
      by_cases hp : pos < s.size
      · have hnx : ∀ ty, (Instr.next (.pointer (some ⟨w1.heap.size + 1, 0, none⟩)) true ty).run Tryd.prog wr = _ := fun ty => Lib.run_next_any_at wr (w1.heap.size + 1) s pos ty hit hp
        have hwd := width_pos s pos hp
        have hd1 := decode_le s pos
        have hI2 := hI.iterAt hit (pos + (Utf8.decode s pos).2)
        have hit2 := Lib.iterAt_heap wr (w1.heap.size + 1) s pos (pos + (Utf8.decode s pos).2) hit
        have hbw2 := Lib.below_iterAt hbw (k := w1.heap.size + 1) (by omega) s (pos + (Utf8.decode s pos).2)
        have hsz2 : w1.heap.size ≤ (wr.iterAt (w1.heap.size + 1) s (pos + (Utf8.decode s pos).2)).heap.size := by rw [Lib.iterAt_size]; omega
        obtain ⟨f, rfl⟩ : ∃ f, fuel = f + 1 := ⟨fuel - 1, by omega⟩
        go_wp2_with (go_at_call 103; refine (writeRune_k w1.heap.size w1.heap.size _ _ (by omega) (by omega) _ hI2 (by rw [Lib.byteCells_length]; omega) hsz2).mono ?_)
        rintro e W1 ⟨rfl, h1, b1, k1⟩
        go_wp2_with fail
        go_roundw
        case rel =>
          have hl4 := Lib.runeCells_le ((Utf8.decode s pos).1 : Int)
          rw [Lib.runeCells_length] at hl4
          refine ⟨pos + (Utf8.decode s pos).2, f, acc ++ Lib.encodeRune (Utf8.decode s pos).1, ?_, k1.iter hit2 (by omega), hbw2.trans b1, ?_, by omega, by simp; omega⟩
          · rw [Lib.byteCells_append, Lib.byteCells_encodeRune]; exact Or.inr h1
          · rw [← hacc]; simp [repFrom, hp]
        case measure =>
          simp only [World.iterPos, k1.iter hit2 (by omega), hit]
          omega
      · have hnx : ∀ ty, (Instr.next (.pointer (some ⟨w1.heap.size + 1, 0, none⟩)) true ty).run Tryd.prog wr = _ := fun ty => Lib.run_next_end_at wr (w1.heap.size + 1) s pos ty hit hp
        go_wp2_with (go_at_call 104; refine (sh_Builder_String_any_k w1.heap.size w1.heap.size acc _ hI (by omega)).mono ?_)
        rintro e W1 ⟨rfl, _, b1, _⟩
        go_wp2_with fail
        go_ret
        rw [repFrom_end s fuel pos hp, List.append_nil] at hacc
        subst hacc
        exact ⟨rfl, HC1.out.trans' (chg_of_below (hbw.trans b1))⟩
end Go.Proofs.YtiecgbmeobpomaaDoor
namespace Go.Proofs.YtiecgbmeobpomaaDoor
open Go.RowKit
set_option linter.unusedVariables false
set_option linter.unusedSimpArgs false

theorem enc_list (r : Nat) : (Utf8.encode (r : Int)).data.toList = Lib.encodeRune (r : Int) := by
  unfold Lib.encodeRune
  rw [← Extern.FmtText.encode_eq r]
  unfold Extern.FmtText.nums
  rw [List.map_map]
  have : ∀ l : List UInt8, l.map ((fun x : Int => x.toNat.toUInt8) ∘ fun x : UInt8 => (x.toNat : Int)) = l := fun l => by
    induction l with
    | nil => rfl
    | cons a l ih => rw [List.map_cons, ih]; congr 1; simp
  exact (this _).symm
theorem enc_bytes (r : Nat) : Utf8.encode (r : Int) = ⟨(Lib.encodeRune (r : Int)).toArray⟩ := by
  have h := enc_list r
  generalize Utf8.encode (r : Int) = e at *
  generalize Lib.encodeRune (r : Int) = l at *
  subst h
  cases e
  simp
theorem cat_bytes (a b : List UInt8) : (⟨a.toArray⟩ : ByteArray) ++ ⟨b.toArray⟩ = ⟨(a ++ b).toArray⟩ := by
  apply ByteArray.ext
  rw [ByteArray.data_append, List.append_toArray]
set_option maxHeartbeats 4000000 in
set_option maxRecDepth 1000000 in
theorem rrepair_raw (s : ByteArray) (w : World) (hs : s.size ≤ 35184372088832) :
    Calls Tryd.prog 95 #[.string s] w fun e w' => e = .returned (.string ⟨(repB s).toArray⟩) ∧ Chg (fun _ => False) w w' := by
  go_enter Tryd.func95, Tryd.ntmps95
  go_wp2_with fail
  go_loopw [3, 5] (fun u3 _ wr => ∃ (pos fuel : Nat) (acc : List UInt8), u3 = .string ⟨acc.toArray⟩ ∧ wr.heap[w.heap.size]? = some (.stringIter s pos) ∧ Below w.heap.size w wr ∧ acc ++ repFrom s fuel pos = repB s ∧ s.size ≤ pos + fuel ∧ acc.length ≤ 4 * pos) (fun _ _ wr => s.size - wr.iterPos w.heap.size)
  case atStart =>
    refine ⟨0, s.size, [], rfl, ?_, (Below.refl _ w).alloc (Nat.le_refl _) _, rfl, by omega, by simp⟩
    have := World.iter_heap w s 0
    simpa using this
  case round =>
    obtain ⟨pos, fuel, acc, rfl, hit, hbw, hacc, hfu, hal⟩ := hrel
    have hsz : w.heap.size < wr.heap.size := (Array.getElem?_eq_some_iff.1 hit).1
    by_cases hp : pos < s.size
    · have hnx : ∀ ty, (Instr.next (.pointer (some ⟨w.heap.size, 0, none⟩)) true ty).run Tryd.prog wr = _ := fun ty => Lib.run_next_any_at wr w.heap.size s pos ty hit hp
      have hwd := width_pos s pos hp
      have hd1 := decode_le s pos
      obtain ⟨f, rfl⟩ : ∃ f, fuel = f + 1 := ⟨fuel - 1, by omega⟩
      have hl4 := Lib.runeCells_le ((Utf8.decode s pos).1 : Int)
      rw [Lib.runeCells_length] at hl4
      have hza : (⟨acc.toArray⟩ : ByteArray).size = acc.length := by show acc.toArray.size = _; simp
      have HEB := Lib.hid (enc_bytes (Utf8.decode s pos).1)
      have hit2 := Lib.iterAt_heap wr w.heap.size s pos (pos + (Utf8.decode s pos).2) hit
      have HBW := Lib.hid (Lib.below_iterAt hbw (k := w.heap.size) (Nat.le_refl _) s (pos + (Utf8.decode s pos).2))
      have hac : acc ++ (Lib.encodeRune (Utf8.decode s pos).1 ++ repFrom s f (pos + (Utf8.decode s pos).2)) = repB s := by rw [← hacc]; simp [repFrom, hp]
      have HAC := Lib.hid hac
      clear hac hacc
      generalize (Utf8.decode s pos).1 = rn at *
      generalize (Utf8.decode s pos).2 = dl at *
      have hze : (Utf8.encode (rn : Int)).size ≤ 4 := by
        rw [HEB.out]
        show (Lib.encodeRune (rn : Int)).toArray.size ≤ 4
        rw [List.size_toArray]
        exact hl4.2
      have HL4 := Lib.hid hl4
      have hcat := cat_bytes acc (Lib.encodeRune (rn : Int))
      rw [← HEB.out] at hcat
      have HCA := Lib.hid hcat
      have HZA := Lib.hid hza
      generalize (⟨acc.toArray⟩ : ByteArray) = u at *
      go_upto_region 5 with fail
      clear hcat hl4 hza
      have ksz : ¬ 9223372036854775807 < u.size + (Utf8.encode (rn : Int)).size := by have := HZA.out; omega
      generalize wr.iterAt w.heap.size s (pos + dl) = w2 at *
      go_wp2_with fail
      go_roundw
      case rel => exact ⟨pos + dl, f, acc ++ Lib.encodeRune (rn : Int), by rw [HCA.out], hit2, HBW.out, by rw [List.append_assoc]; exact HAC.out, by omega, by rw [List.length_append]; have := HL4.out; omega⟩
      case measure =>
        simp only [World.iterPos, hit2, hit]
        omega
    · have hnx : ∀ ty, (Instr.next (.pointer (some ⟨w.heap.size, 0, none⟩)) true ty).run Tryd.prog wr = _ := fun ty => Lib.run_next_end_at wr w.heap.size s pos ty hit hp
      go_wp2_with fail
      go_ret
      rw [repFrom_end s fuel pos hp, List.append_nil] at hacc
      subst hacc
      exact ⟨rfl, chg_of_below hbw⟩
/-- A valid string is written as it is. -/
theorem rep_valid (s : ByteArray) : ∀ (fuel pos : Nat), pos ≤ s.size → s.size ≤ pos + fuel → Lib.validD (s.data.toList.drop pos) = true → repFrom s fuel pos = s.data.toList.drop pos
  | 0, pos, h1, h2, _ => by
    have hz : s.data.toList.length = s.size := by rw [Array.length_toList]; rfl
    rw [List.drop_of_length_le (by omega)]
    rfl
  | fuel + 1, pos, h1, h2, hv => by
    have hz : s.data.toList.length = s.size := by rw [Array.length_toList]; rfl
    by_cases hp : pos < s.size
    · have hne : s.data.toList.drop pos ≠ [] := by
        intro e
        have := congrArg List.length e
        rw [List.length_drop, List.length_nil] at this
        omega
      have hd := Lib.decodeL_drop s pos
      rw [Lib.validD_step _ hne] at hv
      have hb : ¬ ((Lib.decodeL (s.data.toList.drop pos)).1 = 65533 ∧ (Lib.decodeL (s.data.toList.drop pos)).2 = 1) := fun e => by rw [if_pos e] at hv; cases hv
      rw [if_neg hb] at hv
      have he := Lib.encode_decode _ hne hb
      have hle := Lib.decodeL_le _ hne
      rw [List.length_drop] at hle
      rw [hd] at he hle hv
      rw [List.drop_drop] at hv
      have ih := rep_valid s fuel (pos + (Utf8.decode s pos).2) (by omega) (by have := width_pos s pos hp; omega) hv
      rw [repFrom, if_pos hp, he, ih, ← List.drop_drop, List.take_append_drop]
    · rw [repFrom_end s _ pos hp, List.drop_of_length_le (by omega)]
theorem repair_eq (s : ByteArray) : (⟨(repB s).toArray⟩ : ByteArray) = repairM s := by
  unfold repairM
  by_cases hv : Lib.validD s.data.toList = true
  · rw [if_pos hv]
    have := rep_valid s s.size 0 (by omega) (by omega) (by rw [List.drop_zero]; exact hv)
    rw [List.drop_zero] at this
    unfold repB
    rw [this]
  · rw [if_neg hv]
theorem rrepair_any (s : ByteArray) (w : World) (hs : s.size ≤ 35184372088832) (hU : Lib.Utf8Tabs 0 1 w) :
    Calls Tryd.prog 95 #[.string s] w fun e w' => e = .returned (.string (repairM s)) ∧ Chg (fun _ => False) w w' := by
  rw [← repair_eq]
  exact rrepair_raw s w hs
end Go.Proofs.YtiecgbmeobpomaaDoor
namespace Go.Proofs.YtiecgbmeobpomaaDoor
open Go.RowKit
set_option linter.unusedVariables false
set_option linter.unusedSimpArgs false

theorem plainElem_bool_inv {H : Type} {P : Program} {e : TypeId} (he : P.underlying e = some .bool) {v : Value} {z : DataW H × List MemPlace} (h : plainElem P e v = some z) : ∃ x, v = .bool x ∧ z = (.lit (.bool x), []) := by
  unfold plainElem at h
  rw [he] at h
  cases v <;> simp at h
  subst h
  exact ⟨_, rfl, rfl⟩
theorem i64_wf {k : Int} (h : -9223372036854775808 ≤ k ∧ k ≤ 9223372036854775807) : (Lit.int .i64 k).wf = true := by
  have e1 : IntKind.i64.min = -9223372036854775808 := by decide
  have e2 : IntKind.i64.max = 9223372036854775807 := by decide
  simp [Lit.wf, e1, e2, h]
set_option maxRecDepth 100000 in
theorem zero_bool (W : World) : (zeroValue 4).run Tryd.prog W = .ok (.bool false) W := by kernel_rfl
noncomputable def inB {α : Type} (x : α) (S : List α) : Bool := @decide (x ∈ S) (Classical.propDecidable _)
theorem inB_true {α : Type} {x : α} {S : List α} (h : x ∈ S) : inB x S = true :=  @decide_eq_true _ (Classical.propDecidable _) h
theorem inB_false {α : Type} {x : α} {S : List α} (h : ¬ x ∈ S) : inB x S = false := @decide_eq_false _ (Classical.propDecidable _) h
/-- All different. -/
noncomputable def diffB {α : Type} (l : List α) : Bool := @decide l.Nodup (Classical.propDecidable _)
theorem diffB_true {α : Type} {l : List α} (h : l.Nodup) : diffB l = true := @decide_eq_true _ (Classical.propDecidable _) h
theorem diffB_false {α : Type} {l : List α} (h : ¬ l.Nodup) : diffB l = false := @decide_eq_false _ (Classical.propDecidable _) h
theorem diffB_iff {α : Type} {l : List α} : diffB l = true ↔ l.Nodup := @decide_eq_true_iff _ (Classical.propDecidable _)
/-- A set of what was seen: map[K]bool, at block b. -/
structure SeenK {α : Type} (k : TypeId) (kv : α → Value) (W : World) (b n : Nat) (S : List α) : Prop where
  ex : ∃ D : DataW Unit, W.ownsMap Tryd.prog k (plainElem Tryd.prog 4) b n D ∧ Maps.IsMap D ∧ ∀ x l, keyOf Tryd.prog k (kv x) = some l → D.atKey l (.lit (.bool false)) = .lit (.bool (inB x S))
section
variable {α : Type} {k : TypeId} {kv : α → Value} {W W' : World} {b n : Nat} {S : List α}
theorem seenK_made (k : TypeId) (kv : α → Value) (W : World) : SeenK k kv (W.alloc (.map #[] 0)) W.heap.size 0 [] :=
  ⟨.map [], World.ownsMap_made W Tryd.prog k _, ⟨[], rfl⟩, fun x l _ => by rw [WideAt.atKey_none _ (by simp), inB_false (by simp)]⟩
theorem SeenK.kept (h : SeenK k kv W b n S) {Q : Nat → Prop} (hc : Chg Q W W') (hb : ¬ Q b) : SeenK k kv W' b n S := by
  obtain ⟨D, ⟨es, clock, h1, r⟩, h2, h3⟩ := h.ex
  exact ⟨D, ⟨es, clock, hc.keep h1 hb, r⟩, h2, h3⟩
theorem SeenK.lt (h : SeenK k kv W b n S) : b < W.heap.size := by
  obtain ⟨D, h1, -⟩ := h.ex
  exact h1.lt
theorem SeenK.look (h : SeenK k kv W b n S) {t : TypeId} (K : Maps.Keyed Tryd.prog k) (ht : Tryd.prog.underlying t = some (.map k 4)) {x : α} {l : Lit} (hk : keyOf Tryd.prog k (kv x) = some l) : (Instr.lookup t (.map (some b)) (kv x) false).run Tryd.prog W = .ok (.bool (inB x S)) W := by
  obtain ⟨D, h1, h2, h3⟩ := h.ex
  obtain ⟨v, ps, hrun, hR⟩ := h1.lookup K ht (z := .bool false) (zero_bool W) (plainElem_bool Tryd.underlying4 false) hk
  rw [h3 x l hk] at hR
  obtain ⟨y, rfl, e⟩ := plainElem_bool_inv Tryd.underlying4 hR
  rw [hrun]
  simp only [Prod.mk.injEq, DataW.lit.injEq, Lit.bool.injEq] at e
  rw [← e.1]
theorem SeenK.put (h : SeenK k kv W b n S) {t : TypeId} (K : Maps.Keyed Tryd.prog k) (ht : Tryd.prog.underlying t = some (.map k 4)) (inj : ∀ x y, kv x = kv y → x = y) {x : α} {l : Lit} (hk : keyOf Tryd.prog k (kv x) = some l) (hn : n < maxLen) :
    ∃ W', (Instr.mapUpdate t (.map (some b)) (kv x) (.bool true)).run Tryd.prog W = .ok () W' ∧ SeenK k kv W' b (n + 1) (x :: S) ∧ Chg (fun j => j = b) W W' := by
  obtain ⟨D, h1, h2, h3⟩ := h.ex
  obtain ⟨W', hrun, hown, g⟩ := h1.update K ht hn hk (plainElem_bool Tryd.underlying4 true)
  refine ⟨W', hrun, ⟨_, hown, ?_, fun q lq hq => ?_⟩, g.os, g.tape, g.output, g.size, fun j hj hn => g.block j hj (fun e => hn (Option.some.inj e))⟩
  · obtain ⟨l, rfl⟩ := h2
    rw [DataW.put_eq]
    exact ⟨_, rfl⟩
  · by_cases e : q = x
    · subst e
      rw [hk] at hq
      cases hq
      rw [Maps.atKey_put_same h2 (K.key hk), inB_true List.mem_cons_self]
    · rw [Maps.atKey_put_other (fun y => e (inj q x (K.inj (by rw [← y]; exact hq) hk))), h3 q lq hq]
      by_cases hm : q ∈ S
      · rw [inB_true hm, inB_true (List.mem_cons_of_mem _ hm)]
      · rw [inB_false hm, inB_false (fun y => (List.mem_cons.1 y).elim e hm)]
end
/-- A value's cells. -/
structure Vl where
  kind : Int
  int : Int
  str : ByteArray
  ref : Int
def Vl.val (x : Vl) : Value := .agg #[.int .i64 x.kind, .int .i64 x.int, .string x.str, .int .i64 x.ref]
def Vl.cells (x : Vl) : List Value := [.int .i64 x.kind, .int .i64 x.int, .string x.str, .int .i64 x.ref]
theorem Vl.inj (x y : Vl) (h : x.val = y.val) : x = y := by
  cases x; cases y
  simp only [Vl.val, Value.agg.injEq] at h
  simp at h
  obtain ⟨rfl, rfl, rfl, rfl⟩ := h
  rfl
def I64 (k : Int) : Prop := -9223372036854775808 ≤ k ∧ k ≤ 9223372036854775807
structure Vl.Fit (x : Vl) : Prop where
  kind : I64 x.kind
  int : I64 x.int
  str : x.str.size ≤ maxLen
  ref : I64 x.ref
theorem keyI {k : Int} (h : I64 k) : keyOf Tryd.prog 3 (Value.int .i64 k) = some (.int .i64 k) := Maps.keyOf_int_mk Tryd.underlying3 (i64_wf h)
theorem keyS {s : ByteArray} (h : s.size ≤ maxLen) : keyOf Tryd.prog 9 (Value.string s) = some (.string s.data.toList) := WideMaps.keyOf_string_mk Tryd.underlying9 h
theorem typesN : Tryd.prog.types.size = Tryd.prog.types.size - 1 + 1 := by kernel_rfl
set_option maxRecDepth 100000 in
theorem cellsV : Tryd.prog.cellsOf 123 = 4 := by kernel_rfl
set_option maxRecDepth 100000 in
theorem cells1 : Tryd.prog.cellsOf 3 = 1 ∧ Tryd.prog.cellsOf 2 = 1 ∧ Tryd.prog.cellsOf 9 = 1 := ⟨by kernel_rfl, by kernel_rfl, by kernel_rfl⟩
set_option maxRecDepth 100000 in
theorem keyTypeV : Tryd.prog.keyType 123 = true := by kernel_rfl
theorem keyV {x : Vl} (h : x.Fit) : ∃ l, keyOf Tryd.prog 123 x.val = some l := by
  have hf : x.val.formed Tryd.prog 123 = true := by
    unfold Vl.val Value.formed
    rw [Tryd.underlying123, cellsV]
    rfl
  unfold keyOf
  rw [Tryd.underlying123]
  simp only [keyTypeV, hf, Bool.and_self, if_true]
  have hk : ∃ ls, Tryd.prog.keyLits (Tryd.prog.types.size + 1) 123 x.val.cells.toList = some ls := by
    have hc : x.val.cells.toList = x.cells := rfl
    rw [hc, typesN]
    unfold Vl.cells
    have e1 := i64_wf h.kind
    have e2 := i64_wf h.int
    have e3 := i64_wf h.ref
    have e4 := h.str
    refine ⟨[.int .i64 x.kind, .int .i64 x.int, .string x.str.data.toList, .int .i64 x.ref], ?_⟩
    simp only [Program.keyLits, Tryd.underlying123]
    rw [if_pos ⟨by rw [cellsV]; rfl, by simp⟩]
    simp only [List.mapM_cons, List.mapM_nil, cells1.1, cells1.2.1, cells1.2.2, List.drop_succ_cons, List.drop_zero, List.take_succ_cons, List.take_zero, Program.keyLits, Tryd.underlying3, Tryd.underlying2, Tryd.underlying9, e1, e2, e3, e4, and_self, if_true]
    rfl
  obtain ⟨ls, hls⟩ := hk
  rw [hls]
  exact ⟨_, rfl⟩
set_option maxRecDepth 100000 in
theorem lawV : WideMaps.KeyLaw Tryd.prog 123 := deep_law_laid (m := 3) (by kernel_rfl) (by omega) (of_decide_eq_true (by kernel_rfl)) (by kernel_rfl) (by rw [Tryd.underlying123])

set_option maxHeartbeats 1600000 in
set_option maxRecDepth 100000 in
theorem distinctI_any {D : Nat → Prop} (w : World) (v : Value) (l : List Int) (h : SeenN D w 1 v l.length (intC l)) (hf : Few l.length) (hk : ∀ x ∈ l, I64 x) :
    Calls Tryd.prog 66 #[v] w fun e w' => e = .returned (.bool (diffB l)) ∧ Chg (fun _ => False) w w' := by
  obtain ⟨p, cap, rfl, hc1, hc2, hxl, hp0, hp1⟩ := h
  have HL := Lib.hid hf.lt
  have HK := Lib.hid hk
  have HP := Lib.hid hp1
  have hll : (l.length : Int) ≤ 1000000000 := by have := hf.lt; omega
  obtain ⟨sm, hsm⟩ : ∃ s, s = w.heap.size := ⟨_, rfl⟩
  have HS0 := Lib.hid (show SeenK 3 (Value.int .i64) (w.alloc (.map #[] 0)) sm 0 [] by rw [hsm]; exact seenK_made 3 (Value.int .i64) w)
  have HW := Lib.hid (Chg.alloc (fun _ => False) w (.map #[] 0))
  have HSM := Lib.hid hsm
  clear hf hk hc1 hc2 hxl hp0 hp1 hsm
  have hmm := @run_makeMap Tryd.prog
  go_enter Tryd.func66, Tryd.ntmps66
  go_upto_region 2 with fail
  have hsm := HSM.out
  rw [← hsm]
  clear hsm
  generalize w.alloc (.map #[] 0) = wm at *
  go_wp2_with fail
  go_loopw [5, 9] (fun _ i wr => ∃ k m : Nat, k ≤ l.length ∧ i = .int .i64 k ∧ Hid (m ≤ k) ∧ Hid (SeenK 3 (Value.int .i64) wr sm m (l.take k).reverse) ∧ Hid (l.take k).Nodup ∧ Hid (Chg (fun _ => False) w wr)) (fun _ i _ => l.length - (intOf i).toNat)
  case atStart => exact ⟨0, 0, by omega, rfl, Lib.hid (by omega), by simpa using HS0, Lib.hid (by simp), HW⟩
  case round =>
    clear HS0 HW
    obtain ⟨k, m, hk, rfl, HM, HS, HN, HC⟩ := hrel
    by_cases hlt : k < l.length
    · have k0 : (0 : Int) ≤ (k : Int) := by omega
      have k1 : (k : Int) < (l.length : Int) := by omega
      have w64 : IntKind.i64.wrap ((k : Int) + 1) = ((k + 1 : Nat) : Int) := IntWalk.i64_in _ (by omega)
      obtain ⟨g, off, rfl, -, -, hcell⟩ := HP.out (by omega)
      have hin := HK.out _ (List.getElem_mem hlt)
      have HT := Lib.hid (List.take_succ_eq_append_getElem hlt)
      have HMEM := Lib.hid (show l[k] ∈ l.take k → ¬ l.Nodup from fun hx hnd => by
        have hs : l = l.take k ++ l[k] :: l.drop (k + 1) := by rw [← List.drop_eq_getElem_cons hlt, List.take_append_drop]
        rw [hs, List.nodup_append] at hnd
        exact hnd.2.2 _ hx _ List.mem_cons_self rfl)
      have q0 := HC.out.cell (hcell k (.int .i64 l[k]) (by simp [intC, hlt]))
      have HNX := Lib.hid (show k + 1 ≤ l.length from hlt)
      have HKK : Hid (k ≤ 1000000000) := Lib.hid (by omega)
      generalize l[k] = x at *
      clear hk hlt hcell
      have hkey := keyI hin
      have hlook := HS.out.look (Maps.int_keyed Tryd.underlying3) Tryd.underlying87 (x := x) hkey

      by_cases hs : x ∈ (l.take k).reverse
      · rw [inB_true hs] at hlook
        have HRES : Hid (diffB l = false) := Lib.hid (diffB_false (HMEM.out (List.mem_reverse.1 hs)))
        clear hs hin
        go_wp2_with fail
        go_ret
        exact ⟨by rw [HRES.out]; rfl, HC.out⟩
      · rw [inB_false hs] at hlook
        have HNM := Lib.hid hs
        obtain ⟨W2, hrun2, hsn2, hch2⟩ := HS.out.put (Maps.int_keyed Tryd.underlying3) Tryd.underlying87 (fun x y e => by simpa using e) (x := x) hkey (by have := HM.out; have := HKK.out; unfold maxLen; omega)
        have HS2 := Lib.hid hsn2
        have HC2 := Lib.hid hch2
        clear hs hin hsn2 hch2

        go_wp2_with fail
        go_roundw
        case rel =>
          refine ⟨k + 1, m + 1, HNX.out, rfl, Lib.hid (by have := HM.out; omega), Lib.hid ?_, Lib.hid ?_, Lib.hid ?_⟩
          · rw [HT.out, List.reverse_append]; exact HS2.out
          · rw [HT.out, List.nodup_append]
            refine ⟨HN.out, by simp, fun a ha b hb => ?_⟩
            rw [List.mem_singleton] at hb
            subst hb
            exact fun e => HNM.out (List.mem_reverse.2 (e ▸ ha))
          · exact HC.out.trans HC2.out (fun _ _ x => x) (fun j hj e => by have := HSM.out; have : j = sm := e; omega)
        case measure => have := HNX.out; simp [intOf, w64]; omega
    · have hk2 : k = l.length := by omega
      subst hk2
      have HRES : Hid (diffB l = true) := Lib.hid (diffB_true (by have := HN.out; rwa [List.take_length] at this))
      clear hlt hk
      go_wp2_with fail
      go_ret
      exact ⟨by rw [HRES.out]; rfl, HC.out⟩

set_option maxHeartbeats 1600000 in
set_option maxRecDepth 100000 in
theorem distinctS_any {D : Nat → Prop} (w : World) (v : Value) (l : List ByteArray) (h : SeenN D w 1 v l.length (strC l)) (hf : Few l.length) (hk : ∀ x ∈ l, x.size ≤ maxLen) :
    Calls Tryd.prog 87 #[v] w fun e w' => e = .returned (.bool (diffB l)) ∧ Chg (fun _ => False) w w' := by
  obtain ⟨p, cap, rfl, hc1, hc2, hxl, hp0, hp1⟩ := h
  have HL := Lib.hid hf.lt
  have HK := Lib.hid hk
  have HP := Lib.hid hp1
  have hll : (l.length : Int) ≤ 1000000000 := by have := hf.lt; omega
  obtain ⟨sm, hsm⟩ : ∃ s, s = w.heap.size := ⟨_, rfl⟩
  have HS0 := Lib.hid (show SeenK 9 Value.string (w.alloc (.map #[] 0)) sm 0 [] by rw [hsm]; exact seenK_made 9 Value.string w)
  have HW := Lib.hid (Chg.alloc (fun _ => False) w (.map #[] 0))
  have HSM := Lib.hid hsm
  clear hf hk hc1 hc2 hxl hp0 hp1 hsm
  have hmm := @run_makeMap Tryd.prog
  go_enter Tryd.func87, Tryd.ntmps87
  go_upto_region 2 with fail
  have hsm := HSM.out
  rw [← hsm]
  clear hsm
  generalize w.alloc (.map #[] 0) = wm at *
  go_wp2_with fail
  go_loopw [5, 9] (fun _ i wr => ∃ k m : Nat, k ≤ l.length ∧ i = .int .i64 k ∧ Hid (m ≤ k) ∧ Hid (SeenK 9 Value.string wr sm m (l.take k).reverse) ∧ Hid (l.take k).Nodup ∧ Hid (Chg (fun _ => False) w wr)) (fun _ i _ => l.length - (intOf i).toNat)
  case atStart => exact ⟨0, 0, by omega, rfl, Lib.hid (by omega), by simpa using HS0, Lib.hid (by simp), HW⟩
  case round =>
    clear HS0 HW
    obtain ⟨k, m, hk, rfl, HM, HS, HN, HC⟩ := hrel
    by_cases hlt : k < l.length
    · have k0 : (0 : Int) ≤ (k : Int) := by omega
      have k1 : (k : Int) < (l.length : Int) := by omega
      have w64 : IntKind.i64.wrap ((k : Int) + 1) = ((k + 1 : Nat) : Int) := IntWalk.i64_in _ (by omega)
      obtain ⟨g, off, rfl, -, -, hcell⟩ := HP.out (by omega)
      have hin := HK.out _ (List.getElem_mem hlt)
      have HT := Lib.hid (List.take_succ_eq_append_getElem hlt)
      have HMEM := Lib.hid (show l[k] ∈ l.take k → ¬ l.Nodup from fun hx hnd => by
        have hs : l = l.take k ++ l[k] :: l.drop (k + 1) := by rw [← List.drop_eq_getElem_cons hlt, List.take_append_drop]
        rw [hs, List.nodup_append] at hnd
        exact hnd.2.2 _ hx _ List.mem_cons_self rfl)
      have q0 := HC.out.cell (hcell k (.string l[k]) (by simp [strC, hlt]))
      have HNX := Lib.hid (show k + 1 ≤ l.length from hlt)
      have HKK : Hid (k ≤ 1000000000) := Lib.hid (by omega)
      generalize l[k] = x at *
      clear hk hlt hcell
      have hkey := keyS hin
      have hlook := HS.out.look (Maps.string_keyed Tryd.underlying9) Tryd.underlying141 (x := x) hkey

      by_cases hs : x ∈ (l.take k).reverse
      · rw [inB_true hs] at hlook
        have HRES : Hid (diffB l = false) := Lib.hid (diffB_false (HMEM.out (List.mem_reverse.1 hs)))
        clear hs hin
        go_wp2_with fail
        go_ret
        exact ⟨by rw [HRES.out]; rfl, HC.out⟩
      · rw [inB_false hs] at hlook
        have HNM := Lib.hid hs
        obtain ⟨W2, hrun2, hsn2, hch2⟩ := HS.out.put (Maps.string_keyed Tryd.underlying9) Tryd.underlying141 (fun x y e => by simpa using e) (x := x) hkey (by have := HM.out; have := HKK.out; unfold maxLen; omega)
        have HS2 := Lib.hid hsn2
        have HC2 := Lib.hid hch2
        clear hs hin hsn2 hch2

        go_wp2_with fail
        go_roundw
        case rel =>
          refine ⟨k + 1, m + 1, HNX.out, rfl, Lib.hid (by have := HM.out; omega), Lib.hid ?_, Lib.hid ?_, Lib.hid ?_⟩
          · rw [HT.out, List.reverse_append]; exact HS2.out
          · rw [HT.out, List.nodup_append]
            refine ⟨HN.out, by simp, fun a ha b hb => ?_⟩
            rw [List.mem_singleton] at hb
            subst hb
            exact fun e => HNM.out (List.mem_reverse.2 (e ▸ ha))
          · exact HC.out.trans HC2.out (fun _ _ x => x) (fun j hj e => by have := HSM.out; have : j = sm := e; omega)
        case measure => have := HNX.out; simp [intOf, w64]; omega
    · have hk2 : k = l.length := by omega
      subst hk2
      have HRES : Hid (diffB l = true) := Lib.hid (diffB_true (by have := HN.out; rwa [List.take_length] at this))
      clear hlt hk
      go_wp2_with fail
      go_ret
      exact ⟨by rw [HRES.out]; rfl, HC.out⟩

set_option maxHeartbeats 1600000 in
set_option maxRecDepth 100000 in
theorem distinctV_any {D : Nat → Prop} (w : World) (v : Value) (l : List Vl) (h : SeenN D w 4 v l.length (l.flatMap Vl.cells)) (hf : Few l.length) (hk : ∀ x ∈ l, x.Fit) :
    Calls Tryd.prog 88 #[v] w fun e w' => e = .returned (.bool (diffB l)) ∧ Chg (fun _ => False) w w' := by
  obtain ⟨p, cap, rfl, hc1, hc2, hxl, hp0, hp1⟩ := h
  have HL := Lib.hid hf.lt
  have HK := Lib.hid hk
  have HP := Lib.hid hp1
  have hll : (l.length : Int) ≤ 1000000000 := by have := hf.lt; omega
  obtain ⟨sm, hsm⟩ : ∃ s, s = w.heap.size := ⟨_, rfl⟩
  have HS0 := Lib.hid (show SeenK 123 Vl.val (w.alloc (.map #[] 0)) sm 0 [] by rw [hsm]; exact seenK_made 123 Vl.val w)
  have HW := Lib.hid (Chg.alloc (fun _ => False) w (.map #[] 0))
  have HSM := Lib.hid hsm
  clear hf hk hc1 hc2 hxl hp0 hp1 hsm
  have hmm := @run_makeMap Tryd.prog
  go_enter Tryd.func88, Tryd.ntmps88
  go_upto_region 2 with fail
  have hsm := HSM.out
  rw [← hsm]
  clear hsm
  generalize w.alloc (.map #[] 0) = wm at *
  go_wp2_with fail
  go_loopw [5, 9] (fun _ i wr => ∃ k m : Nat, k ≤ l.length ∧ i = .int .i64 k ∧ Hid (m ≤ k) ∧ Hid (SeenK 123 Vl.val wr sm m (l.take k).reverse) ∧ Hid (l.take k).Nodup ∧ Hid (Chg (fun _ => False) w wr)) (fun _ i _ => l.length - (intOf i).toNat)
  case atStart => exact ⟨0, 0, by omega, rfl, Lib.hid (by omega), by simpa using HS0, Lib.hid (by simp), HW⟩
  case round =>
    clear HS0 HW
    obtain ⟨k, m, hk, rfl, HM, HS, HN, HC⟩ := hrel
    by_cases hlt : k < l.length
    · have k0 : (0 : Int) ≤ (k : Int) := by omega
      have k1 : (k : Int) < (l.length : Int) := by omega
      have w64 : IntKind.i64.wrap ((k : Int) + 1) = ((k + 1 : Nat) : Int) := IntWalk.i64_in _ (by omega)
      obtain ⟨g, off, rfl, -, -, hcell⟩ := HP.out (by omega)
      have hin := HK.out _ (List.getElem_mem hlt)
      have HT := Lib.hid (List.take_succ_eq_append_getElem hlt)
      have HMEM := Lib.hid (show l[k] ∈ l.take k → ¬ l.Nodup from fun hx hnd => by
        have hs : l = l.take k ++ l[k] :: l.drop (k + 1) := by rw [← List.drop_eq_getElem_cons hlt, List.take_append_drop]
        rw [hs, List.nodup_append] at hnd
        exact hnd.2.2 _ hx _ List.mem_cons_self rfl)
      have hfl : ∀ j u, (Vl.cells l[k])[j]? = some u → j < 4 → (l.flatMap Vl.cells)[k * 4 + j]? = some u := fun j u hu hj => by rw [flat_get _ 4 (fun _ => rfl) l k j hlt hj]; exact hu
      have q0 := HC.out.cell (hcell (k * 4 + 0) _ (hfl 0 _ rfl (by omega)))
      have q1 := HC.out.cell (hcell (k * 4 + 1) _ (hfl 1 _ rfl (by omega)))
      have q2 := HC.out.cell (hcell (k * 4 + 2) _ (hfl 2 _ rfl (by omega)))
      have q3 := HC.out.cell (hcell (k * 4 + 3) _ (hfl 3 _ rfl (by omega)))
      rw [Nat.add_zero] at q0
      rw [← Nat.add_assoc] at q1 q2 q3
      clear hfl
      have HNX := Lib.hid (show k + 1 ≤ l.length from hlt)
      have HKK : Hid (k ≤ 1000000000) := Lib.hid (by omega)
      generalize l[k] = x at *
      clear hk hlt hcell
      obtain ⟨lx, hkey⟩ := keyV hin
      have ha := Chg.alloc (fun _ => False) wr (.cells #[.int .i64 x.kind, .int .i64 x.int, .string x.str, .int .i64 x.ref] 123)
      have HSA := Lib.hid (HS.out.kept ha (fun y => y))
      have HCA := Lib.hid (HC.out.trans' ha)
      clear ha
      have hlook := HSA.out.look (Maps.Keyed.of_law lawV) Tryd.underlying142 (x := x) hkey
      unfold Vl.val at hlook
      by_cases hs : x ∈ (l.take k).reverse
      · rw [inB_true hs] at hlook
        have HRES : Hid (diffB l = false) := Lib.hid (diffB_false (HMEM.out (List.mem_reverse.1 hs)))
        clear hs hin
        go_wp2_with fail
        go_ret
        exact ⟨by rw [HRES.out]; rfl, HCA.out⟩
      · rw [inB_false hs] at hlook
        have HNM := Lib.hid hs
        obtain ⟨W2, hrun2, hsn2, hch2⟩ := HSA.out.put (Maps.Keyed.of_law lawV) Tryd.underlying142 Vl.inj (x := x) hkey (by have := HM.out; have := HKK.out; unfold maxLen; omega)
        have HS2 := Lib.hid hsn2
        have HC2 := Lib.hid hch2
        clear hs hin hsn2 hch2
        unfold Vl.val at hrun2
        go_wp2_with fail
        go_roundw
        case rel =>
          refine ⟨k + 1, m + 1, HNX.out, rfl, Lib.hid (by have := HM.out; omega), Lib.hid ?_, Lib.hid ?_, Lib.hid ?_⟩
          · rw [HT.out, List.reverse_append]; exact HS2.out
          · rw [HT.out, List.nodup_append]
            refine ⟨HN.out, by simp, fun a ha b hb => ?_⟩
            rw [List.mem_singleton] at hb
            subst hb
            exact fun e => HNM.out (List.mem_reverse.2 (e ▸ ha))
          · exact HCA.out.trans HC2.out (fun _ _ x => x) (fun j hj e => by have := HSM.out; have : j = sm := e; omega)
        case measure => have := HNX.out; simp [intOf, w64]; omega
    · have hk2 : k = l.length := by omega
      subst hk2
      have HRES : Hid (diffB l = true) := Lib.hid (diffB_true (by have := HN.out; rwa [List.take_length] at this))
      clear hlt hk
      go_wp2_with fail
      go_ret
      exact ⟨by rw [HRES.out]; rfl, HC.out⟩
end Go.Proofs.YtiecgbmeobpomaaDoor
