/-
  HistoryStates: the card.
-/
import Derived.Test.YtiecgbmeobpomaaDoorPHistoryStatesl
import Derived.Test.YtiecgbmeobpomaaDoorPHistoryStatesm
import Derived.Test.YtiecgbmeobpomaaDoorRows
import Derived.Test.YtiecgbmeobpomaaDoorPHistoryStatesg
import Derived.MakeChecks
import Derived.Test.YtiecgbmeobpomaaDoorPHistoryStatesa
import Derived.Deep.DeepHandedRow
import Derived.SevenTiedAt
import Derived.Lay
import Derived.LaidMore
import Derived.Stop.Joined
import Derived.Test.YtiecgbmeobpomaaDoorCards
import Derived.Test.YtiecgbmeobpomaaDoorTie
namespace Go.Proofs.YtiecgbmeobpomaaDoor
open Go.ChangeShapes Go.WideShapes Go.ChangeAt Go.RowKit
set_option linter.unusedVariables false
set_option linter.unusedSimpArgs false

set_option maxHeartbeats 6400000 in
set_option maxRecDepth 100000 in
theorem push_no2 {D : Nat → Prop} (w : World) (b : Nat) (hU : Lib.Utf8Tabs 0 1 w) (url : ByteArray) (m : Msg) (sn sp : Option Addr) (nn cn np cp : Nat) (hm : MsgAt D w (.slice sn nn cn) (.slice sp np cp) m) (hfit : MsgFit m) (ha : allowedB m = false) :
    Calls Tryd.prog 21 #[.pointer (some ⟨b, 0, none⟩), .string url, .agg #[.slice sn nn cn, .slice sp np cp]] w fun z w' => z = .returned (.tuple #[.agg #[.int .i64 0, .int .i64 0, .string ⟨#[]⟩, .string ⟨#[]⟩, .slice none 0 0, .slice none 0 0, .int .i64 0, .int .i64 0, .int .i64 0, .bool false, .bool false, .slice none 0 0], .int .i64 1]) ∧ Chg (fun _ => False) w w' := by
  have hb6 := alloc_block (w.alloc (.cells #[.slice sn nn cn, .slice sp np cp] 32)) (.cells #[.int .i64 0, .int .i64 0, .string ⟨#[]⟩, .string ⟨#[]⟩, .slice none 0 0, .slice none 0 0, .int .i64 0, .int .i64 0, .int .i64 0, .bool false, .bool false, .slice none 0 0] 40)
  rw [World.size_alloc] at hb6
  have HB6 := Lib.hid hb6
  have hb5 := alloc_old (.cells #[.int .i64 0, .int .i64 0, .string ⟨#[]⟩, .string ⟨#[]⟩, .slice none 0 0, .slice none 0 0, .int .i64 0, .int .i64 0, .int .i64 0, .bool false, .bool false, .slice none 0 0] 40) (alloc_block w (.cells #[.slice sn nn cn, .slice sp np cp] 32))
  have HC1 := Lib.hid ((Chg.alloc (fun _ => False) w (.cells #[.slice sn nn cn, .slice sp np cp] 32)).allocR (.cells #[.int .i64 0, .int .i64 0, .string ⟨#[]⟩, .string ⟨#[]⟩, .slice none 0 0, .slice none 0 0, .int .i64 0, .int .i64 0, .int .i64 0, .bool false, .bool false, .slice none 0 0] 40))
  have y0 := cell_of_block (i := 0) hb5 rfl
  have y1 := cell_of_block (i := 1) hb5 rfl
  simp only [List.getElem_toArray, List.getElem_cons_zero, List.getElem_cons_succ] at y0 y1
  have HAL := Lib.hid (allowed_any _ sn sp nn cn np cp _ m (hm.chg HC1.out (fun _ _ x => x.elim) (fun _ _ x => x)) hfit (utf8_stay hU HC1.out))
  rw [ha] at HAL
  clear hb6 hb5 hm hfit ha hU
  go_enter Tryd.func21, Tryd.ntmps21
  go_upto_region 1 with fail
  generalize (w.alloc (.cells #[.slice sn nn cn, .slice sp np cp] 32)).alloc (.cells #[.int .i64 0, .int .i64 0, .string ⟨#[]⟩, .string ⟨#[]⟩, .slice none 0 0, .slice none 0 0, .int .i64 0, .int .i64 0, .int .i64 0, .bool false, .bool false, .slice none 0 0] 40) = w1 at *
  generalize hb5e : w.heap.size = b5 at HB6 y0 y1 ⊢
  have HB5E := Lib.hid hb5e
  clear hb5e
  generalize hb6e : b5 + 1 = b6 at HB6 ⊢
  have HB6E := Lib.hid hb6e
  clear hb6e
  go_upto_region 2 with (go_at_call 42; refine HAL.out.mono ?_; rintro _ w3 ⟨rfl, hc3⟩)
  have hb6e := hc3.keep HB6.out (fun x => x)
  obtain ⟨z0, q0, z1, q1, z2, q2, z3, q3, z4, q4, z5, q5, z6, q6, z7, q7, z8, q8, z9, q9, z10, q10, z11, q11, hbf, hcs⟩ := store12 hb6e (.int .i64 0) (.int .i64 0) (.string ⟨#[]⟩) (.string ⟨#[]⟩) (.slice none 0 0) (.slice none 0 0) (.int .i64 0) (.int .i64 0) (.int .i64 0) (.bool false) (.bool false) (.slice none 0 0)
  have HCS := Lib.hid hcs
  have HC3 := Lib.hid hc3
  clear hcs hb6e hc3 y0 y1
  go_wp2_with fail
  generalize ((((((((((((w3.setCell ⟨b6, 0, none⟩ (.int .i64 0)).setCell ⟨b6, 1, none⟩ (.int .i64 0)).setCell ⟨b6, 2, none⟩ (.string ⟨#[]⟩)).setCell ⟨b6, 3, none⟩ (.string ⟨#[]⟩)).setCell ⟨b6, 4, none⟩ (.slice none 0 0)).setCell ⟨b6, 5, none⟩ (.slice none 0 0)).setCell ⟨b6, 6, none⟩ (.int .i64 0)).setCell ⟨b6, 7, none⟩ (.int .i64 0)).setCell ⟨b6, 8, none⟩ (.int .i64 0)).setCell ⟨b6, 9, none⟩ (.bool false)).setCell ⟨b6, 10, none⟩ (.bool false)).setCell ⟨b6, 11, none⟩ (.slice none 0 0)) = wz at *
  refine bodyPost_ret (results_cell_row_tmp48 rfl _ _ b6 #[.int .i64 0, .int .i64 0, .string ⟨#[]⟩, .string ⟨#[]⟩, .slice none 0 0, .slice none 0 0, .int .i64 0, .int .i64 0, .int .i64 0, .bool false, .bool false, .slice none 0 0] (by rfl) (run_loadVar_row _ b6 40 40 _ _ _ hbf Tryd.underlying40 rfl (by kernel_rfl))) rfl ?_
  exact ⟨rfl, (HC1.out.trans' HC3.out).trans HCS.out (fun k _ x => x.elim) (fun k hk x => by
    have := HB5E.out
    have := HB6E.out
    have : k = b6 := x
    omega)⟩
theorem store2 {w : World} {g T : Nat} {u0 u1 : Value} (b0 : w.heap[g]? = some (.cells #[u0, u1] T (0, 0))) (v0 v1 : Value) :
    w.cell? ⟨g, 0, none⟩ = some u0 ∧ w.frozen? ⟨g, 0, none⟩ = false ∧ (w.setCell ⟨g, 0, none⟩ v0).cell? ⟨g, 1, none⟩ = some u1 ∧ (w.setCell ⟨g, 0, none⟩ v0).frozen? ⟨g, 1, none⟩ = false ∧
      ((w.setCell ⟨g, 0, none⟩ v0).setCell ⟨g, 1, none⟩ v1).heap[g]? = some (.cells #[v0, v1] T (0, 0)) ∧ Chg (fun k => k = g) w ((w.setCell ⟨g, 0, none⟩ v0).setCell ⟨g, 1, none⟩ v1) := by
  have b1 : (w.setCell ⟨g, 0, none⟩ v0).heap[g]? = some (.cells #[v0, u1] T (0, 0)) := setCell_block (i := 0) v0 b0
  have b2 : ((w.setCell ⟨g, 0, none⟩ v0).setCell ⟨g, 1, none⟩ v1).heap[g]? = some (.cells #[v0, v1] T (0, 0)) := setCell_block (i := 1) v1 b1
  exact ⟨cell_of_block b0 rfl, frozen_of_block b0, cell_of_block b1 rfl, frozen_of_block b1, b2, (show Chg (fun k => k = g) w (w.setCell ⟨g, 0, none⟩ v0) from Chg.setCell w ⟨g, 0, none⟩ v0).trans' (show Chg (fun k => k = g) (w.setCell ⟨g, 0, none⟩ v0) _ from Chg.setCell _ ⟨g, 1, none⟩ v1)⟩
/-- A message as it came in. -/
structure MsgR where
  m : Msg
  sn : Option Addr
  sp : Option Addr
  nn : Nat
  cn : Nat
  np : Nat
  cp : Nat
def MsgR.val (r : MsgR) : Value := .agg #[.slice r.sn r.nn r.cn, .slice r.sp r.np r.cp]
structure MsgIn (w : World) (r : MsgR) : Prop where
  at_ : MsgAt (fun k => w.heap.size ≤ k) w (.slice r.sn r.nn r.cn) (.slice r.sp r.np r.cp) r.m
  raw : MsgRaw r.m
  lite : MsgLite r.m
set_option maxRecDepth 100000 in
theorem open_msgvS {H : Type} {enc : TypeId × Value → H} {w : World} {base : Nat} {v : Value} {d : DataW H} {ps : List MemPlace} (hv : Value.okWide Tryd.prog w .any base 32 v) (h : DataW.Trod enc Tryd.prog w 0 (fun _ => true) true 32 v d ps) (hw : ∀ n ∈ d.weights Tryd.prog 32, n ≤ reachBytes) :
    ∃ r : MsgR, v = r.val ∧ MsgIn w r := by
  simp only [Value.okWide, Tryd.underlying32] at hv
  obtain ⟨cs, rfl, hsz, _⟩ := hv
  obtain ⟨n, hf⟩ := h
  obtain ⟨sn, sp, nn, cn, np, cp, m, e0, e1, hm, hr, hl⟩ := open_msgS (x := cs.toList) (y := (d, ps)) hf hw
  have h2 : Tryd.prog.cellsOf 32 = 2 := by kernel_rfl
  rw [h2] at hsz
  refine ⟨⟨m, sn, sp, nn, cn, np, cp⟩, ?_, hm, hr, hl⟩
  unfold MsgR.val
  congr 1
  have hl2 : cs.toList.length = 2 := by simpa using hsz
  match hc : cs.toList, hl2 with
  | [x, y], _ =>
    rw [hc] at e0 e1
    simp only [List.getElem?_cons_zero, List.getElem?_cons_succ, Option.some.injEq] at e0 e1
    have : cs = [x, y].toArray := by rw [← hc]
    rw [this, e0, e1]
theorem OpOk.still {w w' : World} {r : OpR} (h : OpOk w r) (hc : Chg (fun _ => False) w w') : OpOk w' r :=
  ⟨h.kind, h.url, h.delta, h.msg.chg hc (fun _ _ x => x.elim) (fun k _ x => Nat.le_trans hc.size x), h.raw⟩
theorem MsgIn.still {w w' : World} {r : MsgR} (h : MsgIn w r) (hc : Chg (fun _ => False) w w') : MsgIn w' r :=
  ⟨h.at_.chg hc (fun _ _ x => x.elim) (fun k _ x => Nat.le_trans hc.size x), h.raw, h.lite⟩
theorem curE_push (h : Hist) (url : ByteArray) (m : Msg) : curE (pushM h url m) = { pushE h url m with id := h.next } := curE_add h (pushE h url m)
theorem pushV_entry (h : Hist) (url : ByteArray) (m : Msg) : (pushV h url m).entry = { pushE h url m with id := h.next } := curE_add h (pushE h url m)
theorem curE_set (h : Hist) (e : Ent) (ok : h.at_ < h.list.length) : curE { h with list := h.list.set h.at_ e } = e := by
  unfold curE
  rw [List.getD_eq_getElem?_getD, List.getElem?_set_self ok]
  rfl
end Go.Proofs.YtiecgbmeobpomaaDoor
namespace Go.Proofs.YtiecgbmeobpomaaDoor
open Go.RowKit
set_option linter.unusedVariables false
set_option linter.unusedSimpArgs false

set_option maxHeartbeats 12800000 in
set_option maxRecDepth 100000 in
theorem historyStates_walk (w : World) (v : Value) (l : List OpR) (ra rb : MsgR) (h : ArgRows w v 6 (l.map OpR.cells)) (hok : ∀ r ∈ l, OpOk w r) (hlt : ∀ r ∈ l, MsgLite r.o.msg) (hma : MsgIn w ra) (hmb : MsgIn w rb) (hU : Lib.Utf8Tabs 0 1 w) :
    Calls Tryd.prog 7 #[v, ra.val, rb.val] w fun e w' => e = .returned (.bool true) ∧ Below w.heap.size w w' := by
  unfold MsgR.val
  have hcb := (Chg.alloc (fun _ => False) w (.cells #[.slice ra.sn ra.nn ra.cn, .slice ra.sp ra.np ra.cp] 32)).allocR (.cells #[.slice rb.sn rb.nn rb.cn, .slice rb.sp rb.np rb.cp] 32)
  have HCB := Lib.hid hcb
  have hb4 := alloc_old (.cells #[.slice rb.sn rb.nn rb.cn, .slice rb.sp rb.np rb.cp] 32) (alloc_block w (.cells #[.slice ra.sn ra.nn ra.cn, .slice ra.sp ra.np ra.cp] 32))
  have hb5 := alloc_block (w.alloc (.cells #[.slice ra.sn ra.nn ra.cn, .slice ra.sp ra.np ra.cp] 32)) (.cells #[.slice rb.sn rb.nn rb.cn, .slice rb.sp rb.np rb.cp] 32)
  rw [World.size_alloc] at hb5
  have a0 := cell_of_block (i := 0) hb4 rfl
  have a1 := cell_of_block (i := 1) hb4 rfl
  have b0 := cell_of_block (i := 0) hb5 rfl
  have b1 := cell_of_block (i := 1) hb5 rfl
  simp only [List.getElem_toArray, List.getElem_cons_zero, List.getElem_cons_succ] at a0 a1 b0 b1
  have HFIT := Lib.hid fit_any
  have HFEW := Lib.hid (fun W hc => few_any _ v l (h.keep hcb) (fun r hr => (hok r hr).still hcb) W hc)
  have HPA := Lib.hid (fun W (hc : Chg (fun _ => False) ((w.alloc (.cells #[.slice ra.sn ra.nn ra.cn, .slice ra.sp ra.np ra.cp] 32)).alloc (.cells #[.slice rb.sn rb.nn rb.cn, .slice rb.sp rb.np rb.cp] 32)) W) => plain_any W ra.sn ra.sp ra.nn ra.cn ra.np ra.cp ra.m (hma.at_.chg (hcb.trans' hc) (fun _ _ x => x.elim) (fun _ _ x => x)))
  have HPB := Lib.hid (fun W (hc : Chg (fun _ => False) ((w.alloc (.cells #[.slice ra.sn ra.nn ra.cn, .slice ra.sp ra.np ra.cp] 32)).alloc (.cells #[.slice rb.sn rb.nn rb.cn, .slice rb.sp rb.np rb.cp] 32)) W) => plain_any W rb.sn rb.sp rb.nn rb.cn rb.np rb.cp rb.m (hmb.at_.chg (hcb.trans' hc) (fun _ _ x => x.elim) (fun _ _ x => x)))
  obtain ⟨a, cap, rfl, hlc, hcm, -⟩ := id h
  have HA := Lib.hid (h.keep hcb)
  rw [List.length_map] at HA HFEW ⊢
  have HOK := Lib.hid (fun r hr => (hok r hr).still hcb)
  have HU := Lib.hid (utf8_stay hU hcb)
  have HMA := Lib.hid (hma.still hcb)
  have HMB := Lib.hid (hmb.still hcb)
  have HFF := Lib.hid (fun (e : fewB l = true) => And.intro (fewB_fit e hok) (fewB_enc e hok hlt))
  have HA0 := Lib.hid a0
  have HA1 := Lib.hid a1
  have HB0 := Lib.hid b0
  have HB1 := Lib.hid b1
  clear h hok hU hlc hcm hlt hcb hb4 hb5 hma hmb
  generalize hfb : fewB l = fb at *
  generalize hpa : plainB ra.m = pa at *
  generalize hpb : plainB rb.m = pb at *
  have HPAE := Lib.hid hpa
  have HPBE := Lib.hid hpb
  clear hpa hpb
  go_enter Tryd.func7, Tryd.ntmps7
  go_upto_region 1 with fail
  generalize (w.alloc (.cells #[.slice ra.sn ra.nn ra.cn, .slice ra.sp ra.np ra.cp] 32)).alloc (.cells #[.slice rb.sn rb.nn rb.cn, .slice rb.sp rb.np rb.cp] 32) = wB at *
  generalize w.heap.size + 1 = b5 at *
  generalize hb4 : w.heap.size = b4 at HA0 HA1 a0 a1 ⊢
  have HB4 := Lib.hid hb4
  clear hb4
  cases fb with
  | false =>
    clear HFF hfb
    go_wp2_with (first
      | (go_at_call 11; refine (HFIT.out _).mono ?_; rintro _ w1 ⟨rfl, hc1⟩; have HC1 := Lib.hid hc1; have a0 := hc1.cell a0; have a1 := hc1.cell a1; have b0 := hc1.cell b0; have b1 := hc1.cell b1; clear hc1)
      | (go_at_call 12; refine (HFEW.out _ HC1.out).mono ?_; rintro _ w2 ⟨rfl, hc2⟩; have HC2 := Lib.hid (HC1.out.trans' hc2); have a0 := hc2.cell a0; have a1 := hc2.cell a1; have b0 := hc2.cell b0; have b1 := hc2.cell b1; clear hc2)
      | (go_at_call 23; refine (HPA.out _ HC2.out).mono ?_; rintro _ w3 ⟨rfl, hc3⟩; have HC3 := Lib.hid (HC2.out.trans' hc3); have b0 := hc3.cell b0; have b1 := hc3.cell b1; clear hc3 HPA)
      | (go_at_call 23; refine (HPB.out _ HC3.out).mono ?_; rintro _ w4 ⟨rfl, hc4⟩; have HC4 := Lib.hid (HC3.out.trans' hc4); clear hc4))
    go_ret
    exact ⟨rfl, (HCB.out.trans' HC2.out).below (by rw [HB4.out]; exact Nat.le_refl _) (fun k x => x.elim)⟩
  | true =>
    cases pa with
    | false =>
      clear HFF hfb
      go_wp2_with (first
        | (go_at_call 11; refine (HFIT.out _).mono ?_; rintro _ w1 ⟨rfl, hc1⟩; have HC1 := Lib.hid hc1; have a0 := hc1.cell a0; have a1 := hc1.cell a1; have b0 := hc1.cell b0; have b1 := hc1.cell b1; clear hc1)
        | (go_at_call 12; refine (HFEW.out _ HC1.out).mono ?_; rintro _ w2 ⟨rfl, hc2⟩; have HC2 := Lib.hid (HC1.out.trans' hc2); have a0 := hc2.cell a0; have a1 := hc2.cell a1; have b0 := hc2.cell b0; have b1 := hc2.cell b1; clear hc2)
        | (go_at_call 23; refine (HPA.out _ HC2.out).mono ?_; rintro _ w3 ⟨rfl, hc3⟩; have HC3 := Lib.hid (HC2.out.trans' hc3); have b0 := hc3.cell b0; have b1 := hc3.cell b1; clear hc3 HPA)
        | (go_at_call 23; refine (HPB.out _ HC3.out).mono ?_; rintro _ w4 ⟨rfl, hc4⟩; have HC4 := Lib.hid (HC3.out.trans' hc4); clear hc4))
      go_ret
      exact ⟨rfl, (HCB.out.trans' HC3.out).below (Nat.le_refl _) (fun k x => x.elim)⟩
    | true =>
      cases pb with
      | false =>
        clear HFF hfb
        go_wp2_with (first
          | (go_at_call 11; refine (HFIT.out _).mono ?_; rintro _ w1 ⟨rfl, hc1⟩; have HC1 := Lib.hid hc1; have a0 := hc1.cell a0; have a1 := hc1.cell a1; have b0 := hc1.cell b0; have b1 := hc1.cell b1; clear hc1)
          | (go_at_call 12; refine (HFEW.out _ HC1.out).mono ?_; rintro _ w2 ⟨rfl, hc2⟩; have HC2 := Lib.hid (HC1.out.trans' hc2); have a0 := hc2.cell a0; have a1 := hc2.cell a1; have b0 := hc2.cell b0; have b1 := hc2.cell b1; clear hc2)
          | (go_at_call 23; refine (HPA.out _ HC2.out).mono ?_; rintro _ w3 ⟨rfl, hc3⟩; have HC3 := Lib.hid (HC2.out.trans' hc3); have b0 := hc3.cell b0; have b1 := hc3.cell b1; clear hc3 HPA)
          | (go_at_call 23; refine (HPB.out _ HC3.out).mono ?_; rintro _ w4 ⟨rfl, hc4⟩; have HC4 := Lib.hid (HC3.out.trans' hc4); clear hc4))
        go_ret
        exact ⟨rfl, (HCB.out.trans' HC4.out).below (Nat.le_refl _) (fun k x => x.elim)⟩
      | true =>
        obtain ⟨⟨hl60, hff⟩, henc⟩ := HFF.out rfl
        have HL60 := Lib.hid hl60
        have HFT := Lib.hid hff
        have HEO := Lib.hid henc
        have HFA := Lib.hid (HMA.out.raw.fit HPAE.out)
        have HFB := Lib.hid (HMB.out.raw.fit HPBE.out)
        have HEA := Lib.hid (encOk_of HMA.out.raw HPAE.out HMA.out.lite)
        have HEB := Lib.hid (encOk_of HMB.out.raw HPBE.out HMB.out.lite)
        have hll : (l.length : Int) ≤ 60 := by omega
        clear HFF hfb hl60 hff henc
        go_upto_region 5 with (first
          | (go_at_call 11; refine (HFIT.out _).mono ?_; rintro _ w1 ⟨rfl, hc1⟩; have HC1 := Lib.hid hc1; have a0 := hc1.cell a0; have a1 := hc1.cell a1; have b0 := hc1.cell b0; have b1 := hc1.cell b1; clear hc1)
          | (go_at_call 12; refine (HFEW.out _ HC1.out).mono ?_; rintro _ w2 ⟨rfl, hc2⟩; have HC2 := Lib.hid (HC1.out.trans' hc2); have a0 := hc2.cell a0; have a1 := hc2.cell a1; have b0 := hc2.cell b0; have b1 := hc2.cell b1; clear hc2)
          | (go_at_call 23; refine (HPA.out _ HC2.out).mono ?_; rintro _ w3 ⟨rfl, hc3⟩; have HC3 := Lib.hid (HC2.out.trans' hc3); have b0 := hc3.cell b0; have b1 := hc3.cell b1; clear hc3 HPA)
          | (go_at_call 23; refine (HPB.out _ HC3.out).mono ?_; rintro _ w4 ⟨rfl, hc4⟩; have HC4 := Lib.hid (HC3.out.trans' hc4); clear hc4))
        have HNEW := Lib.hid (new_any w4 ⟨#[]⟩)
        clear a0 a1 b0 b1
        go_upto_region 6 with (go_at_call 13; refine HNEW.out.mono ?_; rintro _ w5 ⟨vl, rfl, hc3, hr3, ho3⟩; obtain ⟨al, cl, rfl, -, -⟩ := hr3.slice)
        have hca := Chg.alloc (fun _ => False) w5 (.cells #[.slice al 1 cl, .int .i64 0, .int .i64 2, .int .i64 2, .slice none 0 0] 28)
        have hb1 := alloc_block w5 (.cells #[.slice al 1 cl, .int .i64 0, .int .i64 2, .int .i64 2, .slice none 0 0] 28)
        have hc0 := HC4.out.trans' hc3
        have h4 := newHi (w0 := ⟨wB, fun _ => False⟩) (url := ⟨#[]⟩) hb1 (hr3.chg hca (fun _ _ x => x)) (hc0.trans' hca) (fun k hk => ⟨Nat.le_trans HC4.out.size (ho3 k hk), by have := hr3.lt k hk; omega⟩) hc0.size (fun k x => x.elim)
        have HH0 : Hid (∃ vl vs rs, HiAt ⟨wB, fun _ => False⟩ (w5.alloc (.cells #[.slice al 1 cl, .int .i64 0, .int .i64 2, .int .i64 2, .slice none 0 0] 28)) w5.heap.size (histK ⟨#[]⟩ l 0) vl vs rs) := Lib.hid ⟨_, _, _, h4⟩
        clear hca hb1 hc0 h4 hc3 hr3 ho3 HFIT HFEW HNEW
        generalize w5.alloc (.cells #[.slice al 1 cl, .int .i64 0, .int .i64 2, .int .i64 2, .slice none 0 0] 28) = w6 at *
        generalize w5.heap.size = b7 at *
        go_wp2_with fail
        go_loopw [9, 35] (fun _ i wr => ∃ k : Nat, k ≤ l.length ∧ i = .int .i64 k ∧ Hid (∃ vl vs rs, HiAt ⟨wB, fun _ => False⟩ wr b7 (histK ⟨#[]⟩ l k) vl vs rs)) (fun _ i _ => l.length - (intOf i).toNat)
        case atStart => exact ⟨0, Nat.zero_le _, rfl, HH0⟩
        case round =>
          obtain ⟨k, hk, rfl, HX⟩ := hrel
          by_cases hlt : k < l.length
          · have k0 : (0 : Int) ≤ (k : Int) := by omega
            have k1 : (k : Int) < (l.length : Int) := by omega
            have w64 : IntKind.i64.wrap ((k : Int) + 1) = ((k + 1 : Nat) : Int) := IntWalk.i64_in _ (by omega)
            obtain ⟨vl, vs, rs, hx⟩ := HX.out
            obtain ⟨g, off, rfl, -, hcel⟩ := opCell HA.out hx.chg hlt
            have e0 := hcel 0 _ rfl
            have e1 := hcel 1 _ rfl
            have e2 := hcel 2 _ rfl
            have e3 := hcel 3 _ rfl
            have e4 := hcel 4 _ rfl
            have e5 := hcel 5 _ rfl
            rw [Nat.add_zero] at e0
            have hst := hx.still (Chg.alloc (fun _ => False) wr (.cells l[k].cells.toArray 38))
            have hdo := do_step HOK.out HU.out HL60.out HFT.out hlt hst
            have HNX : Hid (k + 1 ≤ l.length) := Lib.hid hlt
            unfold OpR.cells at hdo
            have HDO := Lib.hid hdo
            clear hcel hx hst hdo HX hk
            generalize l[k] = r at *
            clear hlt
            go_wp2_with (go_at_call 15; refine HDO.out.mono ?_; rintro _ wo ⟨zv, rfl, hX6⟩; obtain ⟨vl6, vs6, rs6, h6, -, -⟩ := hX6.opx; have HH6 := Lib.hid h6; clear h6 hX6)
            go_roundw
            case rel => exact ⟨k + 1, HNX.out, rfl, Lib.hid ⟨_, _, _, HH6.out⟩⟩
            case measure => have := HNX.out; simp [intOf, w64]; omega
          · have hke : k = l.length := by omega
            subst hke
            have i1 : ¬ (l.length : Int) < (l.length : Int) := by omega
            obtain ⟨hOK, hPG⟩ := histK_ok (url := ⟨#[]⟩) HL60.out HFT.out l.length
            have HEN := Lib.hid (histK_enc (url := ⟨#[]⟩) HL60.out HFT.out HEO.out l.length)
            have HX0 := Lib.hid HX.out
            clear hlt hk HX
            generalize histK ⟨#[]⟩ l l.length = h at *
            have HOK8 := Lib.hid hOK
            have HL100 : Hid (h.list.length ≤ 100) := Lib.hid (by have := hOK.len; omega)
            clear hOK hPG
            obtain ⟨vl, vs, rs, hx⟩ := HX0.out
            obtain ⟨p1, q1, c1, d1, rfl, rfl, hv1⟩ := hx.hv
            have hbx := hx.box
            have u0 := cell_of_block (i := 0) hbx rfl
            have u1 := cell_of_block (i := 1) hbx rfl
            have u2 := cell_of_block (i := 2) hbx rfl
            have u3 := cell_of_block (i := 3) hbx rfl
            have u4 := cell_of_block (i := 4) hbx rfl
            simp only [List.getElem_toArray, List.getElem_cons_zero, List.getElem_cons_succ] at u0 u1 u2 u3 u4
            have HX9 := Lib.hid hx
            have HHV0 := Lib.hid hv1
            clear hx hbx HX0 hv1
            go_upto_region 12 with fail
            have hca := Chg.alloc (fun _ => False) wr (.cells #[.slice p1 h.list.length c1, .int .i64 (h.at_ : Int), .int .i64 h.next, .int .i64 h.nextPage, .slice q1 h.sleeping.length d1] 28)
            have HB10 := Lib.hid (alloc_block wr (.cells #[.slice p1 h.list.length c1, .int .i64 (h.at_ : Int), .int .i64 h.next, .int .i64 h.nextPage, .slice q1 h.sleeping.length d1] 28))
            have HX11 := Lib.hid (HX9.out.still hca)
            have HHV := Lib.hid (HHV0.out.still hca)
            clear hca HX9 HHV0 u0 u1 u2 u3 u4
            generalize wr.alloc (.cells #[.slice p1 h.list.length c1, .int .i64 (h.at_ : Int), .int .i64 h.next, .int .i64 h.nextPage, .slice q1 h.sleeping.length d1] 28) = w11 at *
            generalize wr.heap.size = b10 at *
            have HMAY1 := Lib.hid (fun W (hc : Chg (fun _ => False) wB W) => may_any W ra.sn ra.sp ra.nn ra.cn ra.np ra.cp ra.m (HMA.out.at_.chg hc (fun _ _ x => x.elim) (fun _ _ x => x)) HFA.out (utf8_stay HU.out hc))
            have HMAY2 := Lib.hid (fun W (hc : Chg (fun _ => False) wB W) => may_any W rb.sn rb.sp rb.nn rb.cn rb.np rb.cp rb.m (HMB.out.at_.chg hc (fun _ _ x => x.elim) (fun _ _ x => x)) HFB.out (utf8_stay HU.out hc))
            cases haa : allowedB ra.m with
            | true =>
              have HAA := Lib.hid haa
              clear haa
              rw [HAA.out] at HMAY1
              have HPY := Lib.hid (push_yes _ w11 b7 h _ _ rs HX11.out HU.out ⟨#[120]⟩ ra.m ra.sn ra.sp ra.nn ra.cn ra.np ra.cp (HMA.out.at_.chg HX11.out.chg (fun _ _ x => x.elim) (fun _ _ x => x)) HFA.out HAA.out (by have := HOK8.out.len; omega) (by have := HOK8.out.slp; omega) (by have := HOK8.out.next; omega))
              have hpe := pushV_entry h ⟨#[120]⟩ ra.m
              have hce := curE_push h ⟨#[120]⟩ ra.m
              rw [← hpe] at hce
              have hpu : (pushV h ⟨#[120]⟩ ra.m).entry.url = ⟨#[120]⟩ := by rw [hpe]; rfl
              have hpm : (pushV h ⟨#[120]⟩ ra.m).entry.msg = ra.m := by rw [hpe]; rfl
              clear hpe
              generalize pushV h ⟨#[120]⟩ ra.m = M at *
              generalize pushM h ⟨#[120]⟩ ra.m = h1 at *
              have a0 := HX11.out.chg.cell HA0.out
              have a1 := HX11.out.chg.cell HA1.out
              have b0 := HX11.out.chg.cell HB0.out
              have b1 := HX11.out.chg.cell HB1.out
              go_upto_region 13 with (go_at_call 21; refine HPY.out.mono ?_; rintro _ w12 ⟨zv, rfl, vl12, vs12, rs12, h12, hc12, hm12, vn12, vp12, vc12, rfl, hms12, hrow12, -⟩; obtain ⟨⟨mn, mnn, mnc, rfl⟩, mp, mpn, mpc, rfl⟩ := hms12.vals; obtain ⟨m11, mc11, rfl, -, -⟩ := hrow12.slice; unfold MvC; have HH12 := Lib.hid h12; have HMS := Lib.hid hms12; clear h12 hms12 hrow12 hc12 hm12)
              obtain ⟨e1, pg1, aw1, sl1, cl1⟩ := M
              obtain ⟨i1, q1, u1, t1, g1, x1, y1⟩ := e1
              simp only at hpu hpm hce
              subst hpu hpm
              have HC1E := Lib.hid hce
              clear hce
              have hca := Chg.alloc (fun _ => False) w12 (.cells #[.int .i64 i1, .int .i64 q1, .string ⟨#[120]⟩, .string t1, .slice mn mnn mnc, .slice mp mpn mpc, .int .i64 x1, .int .i64 y1, .int .i64 pg1, .bool aw1, .bool sl1, .slice m11 cl1.length mc11] 40)
              have HB11A := Lib.hid (alloc_block w12 (.cells #[.int .i64 i1, .int .i64 q1, .string ⟨#[120]⟩, .string t1, .slice mn mnn mnc, .slice mp mpn mpc, .int .i64 x1, .int .i64 y1, .int .i64 pg1, .bool aw1, .bool sl1, .slice m11 cl1.length mc11] 40))
              have HH13 := Lib.hid (HH12.out.still hca)
              have HMG0 := Lib.hid (HMS.out.chg hca (fun _ _ x => x.elim) (fun k _ (x : Mut b7 vl12 vs12 k) => .inr x))
              have HML : Hid (∀ k, Mut b7 vl12 vs12 k → k < w12.heap.size) := Lib.hid HH12.out.mutLt
              clear hca HH12 HMS HPY a0 a1 b0 b1
              generalize w12.alloc (.cells #[.int .i64 i1, .int .i64 q1, .string ⟨#[120]⟩, .string t1, .slice mn mnn mnc, .slice mp mpn mpc, .int .i64 x1, .int .i64 y1, .int .i64 pg1, .bool aw1, .bool sl1, .slice m11 cl1.length mc11] 40) = w13 at *
              generalize w12.heap.size = b11 at *
              have a0 := HH13.out.chg.cell HA0.out
              have a1 := HH13.out.chg.cell HA1.out
              have b0 := HH13.out.chg.cell HB0.out
              have b1 := HH13.out.chg.cell HB1.out
              go_upto_region 15 with (go_at_call 24; refine (HMAY1.out _ HH13.out.chg).mono ?_; rintro _ w14 ⟨rfl, hc14⟩; have HC14 := Lib.hid hc14; clear hc14)
              have HH14 := Lib.hid (HH13.out.still HC14.out)
              have HB11 := Lib.hid (HC14.out.keep HB11A.out (fun x => x))
              have HMG := Lib.hid (HMG0.out.chg HC14.out (fun _ _ x => x.elim) (fun _ _ x => x))
              clear HH13 HC14 HB11A HMG0 a0 a1 b0 b1
              have a0 := HH14.out.chg.cell HA0.out
              have a1 := HH14.out.chg.cell HA1.out
              have b0 := HH14.out.chg.cell HB0.out
              have b1 := HH14.out.chg.cell HB1.out
              cases hab : allowedB rb.m with
              | true =>
                have HAB := Lib.hid hab
                clear hab
                rw [HAB.out] at HMAY2
                have HRP := Lib.hid (replace_yes _ w14 b7 h1 vl12 vs12 rs12 HH14.out HU.out ⟨#[121]⟩ rb.m rb.sn rb.sp rb.nn rb.cn rb.np rb.cp (HMB.out.at_.chg HH14.out.chg (fun _ _ x => x.elim) (fun _ _ x => x)) HFB.out HAB.out)
                have hcur : curE (replM h1 ⟨#[121]⟩ rb.m) = pushE h1 ⟨#[121]⟩ rb.m := curE_set h1 _ HH14.out.ok
                have HCUR := Lib.hid hcur
                go_upto_region 16 with (go_at_call 25; refine HRP.out.mono ?_; rintro _ w15 ⟨rfl, vl15, vs15, rs15, h15, hc15, -⟩; have HH15 := Lib.hid h15; have HC15 := Lib.hid hc15; clear h15 hc15)
                have HB11X := Lib.hid (HC15.out.keep HB11.out (fun x => by have := HML.out _ x; omega))
                have HMGX := Lib.hid (HMG.out.chg HC15.out (fun k _ x => x) (fun _ _ x => x))
                clear HRP HB11 HMG HC15 HH14 a0 a1 b0 b1
                have a0 := HH15.out.chg.cell HA0.out
                have a1 := HH15.out.chg.cell HA1.out
                have b0 := HH15.out.chg.cell HB0.out
                have b1 := HH15.out.chg.cell HB1.out
                go_upto_region 17 with fail
                have hca := Chg.alloc (fun _ => False) w15 (.cells #[.slice rb.sn rb.nn rb.cn, .slice rb.sp rb.np rb.cp] 32)
                have HB14 := Lib.hid (alloc_block w15 (.cells #[.slice rb.sn rb.nn rb.cn, .slice rb.sp rb.np rb.cp] 32))
                have HH16 := Lib.hid (HH15.out.still hca)
                have HB11Y := Lib.hid (hca.keep HB11X.out (fun x => x))
                have HMGY := Lib.hid (HMGX.out.chg (D' := fun k => Mut b7 vl12 vs12 k) hca (fun _ _ x => x.elim) (fun k hk x => x))
                have HCB16 := Lib.hid (HH15.out.chg.trans' hca)
                have HSZ16 : Hid (wB.heap.size ≤ w15.heap.size) := Lib.hid HH15.out.chg.size
                clear hca HH15 HB11X HMGX a0 a1 b0 b1
                generalize w15.alloc (.cells #[.slice rb.sn rb.nn rb.cn, .slice rb.sp rb.np rb.cp] 32) = w16 at *
                generalize w15.heap.size = b14 at *
                have a0 := HCB16.out.cell HA0.out
                have a1 := HCB16.out.cell HA1.out
                have b0 := HCB16.out.cell HB0.out
                have b1 := HCB16.out.cell HB1.out
                go_upto_region 19 with (go_at_call 24; refine (HMAY2.out _ HCB16.out).mono ?_; rintro _ w17 ⟨rfl, hc17⟩; have HC17 := Lib.hid hc17; clear hc17)
                have HH18 := Lib.hid (HH16.out.still HC17.out)
                have HB14X := Lib.hid (HC17.out.keep HB14.out (fun x => x))
                have HB11Z := Lib.hid (HC17.out.keep HB11Y.out (fun x => x))
                have HMGZ := Lib.hid (HMGY.out.chg HC17.out (fun _ _ x => x.elim) (fun _ _ x => x))
                clear HC17 HH16 HB14 HB11Y HMGY a0 a1 b0 b1
                generalize w17 = w18 at *
                obtain ⟨ec, hec⟩ : ∃ e : Ent, e = pushE h1 ⟨#[121]⟩ rb.m := ⟨_, rfl⟩
                have HECU : Hid (ec.url = ⟨#[121]⟩) := Lib.hid (by subst hec; rfl)
                have HECM : Hid (ec.msg = rb.m) := Lib.hid (by subst hec; rfl)
                have HCU := Lib.hid (current_any _ w18 b7 (replM h1 ⟨#[121]⟩ rb.m) _ _ _ HH18.out ec (by rw [hec, ← HCUR.out]; exact curE_get _ HH18.out.ok))
                clear hec
                go_upto_region 20 with (go_at_call 19; refine HCU.out.mono ?_; rintro _ w19 ⟨qn, qp, rfl, hc19, hm19⟩; obtain ⟨⟨kn, knn, knc, rfl⟩, kp, kpn, kpc, rfl⟩ := hm19.vals; unfold EntC; have HC19 := Lib.hid hc19; have HM19 := Lib.hid hm19; clear hc19 hm19)
                have hca := Chg.alloc (fun _ => False) w19 (.cells #[.int .i64 ec.id, .int .i64 ec.page, .string ec.url, .string ec.title, .slice kn knn knc, .slice kp kpn kpc, .int .i64 ec.x, .int .i64 ec.y] 34)
                have hk20 := HC19.out.trans' hca
                have g16 := alloc_block w19 (.cells #[.int .i64 ec.id, .int .i64 ec.page, .string ec.url, .string ec.title, .slice kn knn knc, .slice kp kpn kpc, .int .i64 ec.x, .int .i64 ec.y] 34)
                have g14 := hk20.keep HB14X.out (fun x => x)
                have g11 := hk20.keep HB11Z.out (fun x => x)
                have HCF := Lib.hid (HH18.out.chg.trans' hk20)
                have hmc := HM19.out.chg hca (fun _ _ x => x.elim) (fun _ _ x => x)
                rw [HECM.out] at hmc
                have HMC := Lib.hid hmc
                clear hmc
                have HMM := Lib.hid (HMGZ.out.chg hk20 (fun _ _ x => x.elim) (fun _ _ x => x))
                clear hca hk20 HCU HH18 HB14X HB11Z HC19 HM19 HMGZ
                generalize w19.alloc (.cells #[.int .i64 ec.id, .int .i64 ec.page, .string ec.url, .string ec.title, .slice kn knn knc, .slice kp kpn kpc, .int .i64 ec.x, .int .i64 ec.y] 34) = w20 at *
                generalize w19.heap.size = b16 at *
                have p2 := cell_of_block (i := 2) g16 rfl
                have p4 := cell_of_block (i := 4) g16 rfl
                have p5 := cell_of_block (i := 5) g16 rfl
                have n0 := cell_of_block (i := 0) g14 rfl
                have n1 := cell_of_block (i := 1) g14 rfl
                have m4 := cell_of_block (i := 4) g11 rfl
                have m5 := cell_of_block (i := 5) g11 rfl
                simp only [List.getElem_toArray, List.getElem_cons_zero, List.getElem_cons_succ] at p2 p4 p5 n0 n1 m4 m5
                rw [HECU.out] at p2
                clear g16 g14 g11
                have a0 := HCF.out.cell HA0.out
                have a1 := HCF.out.cell HA1.out
                have b0 := HCF.out.cell HB0.out
                have b1 := HCF.out.cell HB1.out
                have HSA := Lib.hid (fun W (hc : Chg (fun _ => False) w20 W) => same47_any W kn kp rb.sn rb.sp knn knc kpn kpc rb.nn rb.cn rb.np rb.cp rb.m (HMC.out.chg hc (fun _ _ x => x.elim) (fun _ _ x => x)) (HMB.out.at_.chg (HCF.out.trans' hc) (fun _ _ x => x.elim) (fun _ _ x => x)) HEB.out)
                have HSB := Lib.hid (fun W (hc : Chg (fun _ => False) w20 W) => same47_any W mn mp ra.sn ra.sp mnn mnc mpn mpc ra.nn ra.cn ra.np ra.cp ra.m (HMM.out.chg hc (fun _ _ x => x.elim) (fun _ _ x => x)) (HMA.out.at_.chg (HCF.out.trans' hc) (fun _ _ x => x.elim) (fun _ _ x => x)) HEA.out)
                have zu : ((⟨#[121]⟩ : ByteArray).toList == (⟨#[121]⟩ : ByteArray).toList) = true := by simp
                clear HMC HMM
                go_wp2_with (first
                  | (go_at_call 24; refine (HMAY2.out _ HCF.out).mono ?_; rintro _ w21 ⟨rfl, hc21⟩; have HC21 := Lib.hid hc21; have p2 := hc21.cell p2; have p4 := hc21.cell p4; have p5 := hc21.cell p5; have n0 := hc21.cell n0; have n1 := hc21.cell n1; have m4 := hc21.cell m4; have m5 := hc21.cell m5; have a0 := hc21.cell a0; have a1 := hc21.cell a1; clear hc21)
                  | (go_at_call 26; refine (HSA.out _ HC21.out).mono ?_; rintro _ w22 ⟨rfl, hc22⟩; have HC22 := Lib.hid (HC21.out.trans' hc22); have m4 := hc22.cell m4; have m5 := hc22.cell m5; have a0 := hc22.cell a0; have a1 := hc22.cell a1; clear hc22 HSA)
                  | (go_at_call 26; refine (HSB.out _ HC22.out).mono ?_; rintro _ w23 ⟨rfl, hc23⟩; have HC23 := Lib.hid (HC22.out.trans' hc23); clear hc23))
                go_ret
                exact ⟨by first | rfl | simp, ((HCB.out.trans' HCF.out).trans' HC23.out).below (Nat.le_refl _) (fun k x => x.elim)⟩
              | false =>
                have HAB := Lib.hid hab
                clear hab
                rw [HAB.out] at HMAY2
                have HRP := Lib.hid (replace_no _ w14 b7 h1 vl12 vs12 rs12 HH14.out HU.out ⟨#[121]⟩ rb.m rb.sn rb.sp rb.nn rb.cn rb.np rb.cp (HMB.out.at_.chg HH14.out.chg (fun _ _ x => x.elim) (fun _ _ x => x)) HFB.out HAB.out)
                have HCUR := Lib.hid HC1E.out
                go_upto_region 16 with (go_at_call 25; refine HRP.out.mono ?_; rintro _ w15 ⟨rfl, vl15, vs15, rs15, h15, hc15, -⟩; have HH15 := Lib.hid h15; have HC15 := Lib.hid hc15; clear h15 hc15)
                have HB11X := Lib.hid (HC15.out.keep HB11.out (fun x => by have := HML.out _ x; omega))
                have HMGX := Lib.hid (HMG.out.chg HC15.out (fun k _ x => x) (fun _ _ x => x))
                clear HRP HB11 HMG HC15 HH14 a0 a1 b0 b1
                have a0 := HH15.out.chg.cell HA0.out
                have a1 := HH15.out.chg.cell HA1.out
                have b0 := HH15.out.chg.cell HB0.out
                have b1 := HH15.out.chg.cell HB1.out
                go_upto_region 17 with fail
                have hca := Chg.alloc (fun _ => False) w15 (.cells #[.slice rb.sn rb.nn rb.cn, .slice rb.sp rb.np rb.cp] 32)
                have HB14 := Lib.hid (alloc_block w15 (.cells #[.slice rb.sn rb.nn rb.cn, .slice rb.sp rb.np rb.cp] 32))
                obtain ⟨wq, hqe, hqx, hq16⟩ := HH15.out.beside (.cells #[.slice rb.sn rb.nn rb.cn, .slice rb.sp rb.np rb.cp] 32)
                have HQE := Lib.hid hqe
                have HQX := Lib.hid hqx
                have HH16 := Lib.hid hq16
                have HNE : Hid (b11 < w15.heap.size) := Lib.hid (Array.getElem?_eq_some_iff.1 HB11X.out).1
                clear hqe hqx hq16
                have HB11Y := Lib.hid (hca.keep HB11X.out (fun x => x))
                have HMGY := Lib.hid (HMGX.out.chg (D' := fun k => Mut b7 vl12 vs12 k ∨ w15.heap.size ≤ k) hca (fun _ _ x => x.elim) (fun k hk x => x.elim id (fun y => by omega)))
                have HCB16 := Lib.hid (HH15.out.chg.trans' hca)
                have HSZ16 : Hid (wB.heap.size ≤ w15.heap.size) := Lib.hid HH15.out.chg.size
                clear hca HH15 HB11X HMGX a0 a1 b0 b1
                generalize w15.alloc (.cells #[.slice rb.sn rb.nn rb.cn, .slice rb.sp rb.np rb.cp] 32) = w16 at *
                generalize w15.heap.size = b14 at *
                have a0 := HCB16.out.cell HA0.out
                have a1 := HCB16.out.cell HA1.out
                have b0 := HCB16.out.cell HB0.out
                have b1 := HCB16.out.cell HB1.out
                go_upto_region 18 with (go_at_call 24; refine (HMAY2.out _ HCB16.out).mono ?_; rintro _ w17 ⟨rfl, hc17⟩; have HC17 := Lib.hid hc17; clear hc17)
                have HH17 := Lib.hid (HH16.out.still HC17.out)
                have HCB17 := Lib.hid (HCB16.out.trans' HC17.out)
                have HB14W := Lib.hid (HC17.out.keep HB14.out (fun x => x))
                have HB11W := Lib.hid (HC17.out.keep HB11Y.out (fun x => x))
                have HMGW := Lib.hid (HMGY.out.chg HC17.out (fun _ _ x => x.elim) (fun _ _ x => x))
                clear HC17 HH16 HB14 HB11Y HMGY a0 a1 b0 b1
                have a0 := HCB17.out.cell HA0.out
                have a1 := HCB17.out.cell HA1.out
                have b0 := HCB17.out.cell HB0.out
                have b1 := HCB17.out.cell HB1.out
                obtain ⟨z0, q0, z1, q1', hbf, hcs⟩ := store2 HB14W.out (.slice ra.sn ra.nn ra.cn) (.slice ra.sp ra.np ra.cp)
                have HB14X := Lib.hid hbf
                have HCS := Lib.hid hcs
                have HB11Z := Lib.hid (hcs.keep HB11W.out (fun x => by have := HNE.out; omega))
                have HMGZ := Lib.hid (HMGW.out.chg (D' := fun _ => False) hcs (fun k hk x => .inr (by have : k = b14 := x; omega)) (fun k hk x => x.elim))
                clear hbf hcs HB14W HB11W HMGW
                go_upto_region 19 with fail
                clear z0 q0 z1 q1' a0 a1 b0 b1
                generalize (w17.setCell ⟨b14, 0, none⟩ (.slice ra.sn ra.nn ra.cn)).setCell ⟨b14, 1, none⟩ (.slice ra.sp ra.np ra.cp) = w18 at *
                have HH18 := Lib.hid ((HH17.out.write HCS.out (fun k x => (HQX.out k).2 (.inr x)) (fun k x => by rw [HQE.out]; have := HSZ16.out; have : k = b14 := x; show wB.heap.size ≤ k; omega)).shrink (w0 := ⟨wB, fun _ => False⟩) HQE.out (fun k x => x.elim))
                clear HH17 HCS
                obtain ⟨ec, hec⟩ : ∃ e : Ent, e = ⟨i1, q1, ⟨#[120]⟩, t1, ra.m, x1, y1⟩ := ⟨_, rfl⟩
                have HECU : Hid (ec.url = ⟨#[120]⟩) := Lib.hid (by subst hec; rfl)
                have HECM : Hid (ec.msg = ra.m) := Lib.hid (by subst hec; rfl)
                have HCU := Lib.hid (current_any _ w18 b7 (h1) _ _ _ HH18.out ec (by rw [hec, ← HCUR.out]; exact curE_get _ HH18.out.ok))
                clear hec
                go_upto_region 20 with (go_at_call 19; refine HCU.out.mono ?_; rintro _ w19 ⟨qn, qp, rfl, hc19, hm19⟩; obtain ⟨⟨kn, knn, knc, rfl⟩, kp, kpn, kpc, rfl⟩ := hm19.vals; unfold EntC; have HC19 := Lib.hid hc19; have HM19 := Lib.hid hm19; clear hc19 hm19)
                have hca := Chg.alloc (fun _ => False) w19 (.cells #[.int .i64 ec.id, .int .i64 ec.page, .string ec.url, .string ec.title, .slice kn knn knc, .slice kp kpn kpc, .int .i64 ec.x, .int .i64 ec.y] 34)
                have hk20 := HC19.out.trans' hca
                have g16 := alloc_block w19 (.cells #[.int .i64 ec.id, .int .i64 ec.page, .string ec.url, .string ec.title, .slice kn knn knc, .slice kp kpn kpc, .int .i64 ec.x, .int .i64 ec.y] 34)
                have g14 := hk20.keep HB14X.out (fun x => x)
                have g11 := hk20.keep HB11Z.out (fun x => x)
                have HCF := Lib.hid (HH18.out.chg.trans' hk20)
                have hmc := HM19.out.chg hca (fun _ _ x => x.elim) (fun _ _ x => x)
                rw [HECM.out] at hmc
                have HMC := Lib.hid hmc
                clear hmc
                have HMM := Lib.hid (HMGZ.out.chg hk20 (fun _ _ x => x.elim) (fun _ _ x => x))
                clear hca hk20 HCU HH18 HB14X HB11Z HC19 HM19 HMGZ
                generalize w19.alloc (.cells #[.int .i64 ec.id, .int .i64 ec.page, .string ec.url, .string ec.title, .slice kn knn knc, .slice kp kpn kpc, .int .i64 ec.x, .int .i64 ec.y] 34) = w20 at *
                generalize w19.heap.size = b16 at *
                have p2 := cell_of_block (i := 2) g16 rfl
                have p4 := cell_of_block (i := 4) g16 rfl
                have p5 := cell_of_block (i := 5) g16 rfl
                have n0 := cell_of_block (i := 0) g14 rfl
                have n1 := cell_of_block (i := 1) g14 rfl
                have m4 := cell_of_block (i := 4) g11 rfl
                have m5 := cell_of_block (i := 5) g11 rfl
                simp only [List.getElem_toArray, List.getElem_cons_zero, List.getElem_cons_succ] at p2 p4 p5 n0 n1 m4 m5
                rw [HECU.out] at p2
                clear g16 g14 g11
                have a0 := HCF.out.cell HA0.out
                have a1 := HCF.out.cell HA1.out
                have b0 := HCF.out.cell HB0.out
                have b1 := HCF.out.cell HB1.out
                have HSA := Lib.hid (fun W (hc : Chg (fun _ => False) w20 W) => same47_any W kn kp ra.sn ra.sp knn knc kpn kpc ra.nn ra.cn ra.np ra.cp ra.m (HMC.out.chg hc (fun _ _ x => x.elim) (fun _ _ x => x)) (HMA.out.at_.chg (HCF.out.trans' hc) (fun _ _ x => x.elim) (fun _ _ x => x)) HEA.out)
                have HSB := Lib.hid (fun W (hc : Chg (fun _ => False) w20 W) => same47_any W mn mp ra.sn ra.sp mnn mnc mpn mpc ra.nn ra.cn ra.np ra.cp ra.m (HMM.out.chg hc (fun _ _ x => x.elim) (fun _ _ x => x)) (HMA.out.at_.chg (HCF.out.trans' hc) (fun _ _ x => x.elim) (fun _ _ x => x)) HEA.out)
                have zu : ((⟨#[120]⟩ : ByteArray).toList == (⟨#[120]⟩ : ByteArray).toList) = true := by simp
                clear HMC HMM
                go_wp2_with (first
                  | (go_at_call 24; refine (HMAY2.out _ HCF.out).mono ?_; rintro _ w21 ⟨rfl, hc21⟩; have HC21 := Lib.hid hc21; have p2 := hc21.cell p2; have p4 := hc21.cell p4; have p5 := hc21.cell p5; have n0 := hc21.cell n0; have n1 := hc21.cell n1; have m4 := hc21.cell m4; have m5 := hc21.cell m5; have a0 := hc21.cell a0; have a1 := hc21.cell a1; clear hc21)
                  | (go_at_call 26; refine (HSA.out _ HC21.out).mono ?_; rintro _ w22 ⟨rfl, hc22⟩; have HC22 := Lib.hid (HC21.out.trans' hc22); have m4 := hc22.cell m4; have m5 := hc22.cell m5; have a0 := hc22.cell a0; have a1 := hc22.cell a1; clear hc22 HSA)
                  | (go_at_call 26; refine (HSB.out _ HC22.out).mono ?_; rintro _ w23 ⟨rfl, hc23⟩; have HC23 := Lib.hid (HC22.out.trans' hc23); clear hc23))
                go_ret
                exact ⟨by first | rfl | simp, ((HCB.out.trans' HCF.out).trans' HC23.out).below (Nat.le_refl _) (fun k x => x.elim)⟩
            | false =>
              have HAA := Lib.hid haa
              clear haa
              rw [HAA.out] at HMAY1
              have hz := HX11.out
              have HPN := Lib.hid (push_no2 w11 b7 (utf8_stay HU.out HX11.out.chg) ⟨#[120]⟩ ra.m ra.sn ra.sp ra.nn ra.cn ra.np ra.cp (HMA.out.at_.chg HX11.out.chg (fun _ _ x => x.elim) (fun _ _ x => x)) HFA.out HAA.out)
              have HB7 := Lib.hid hz.box
              clear hz
              have a0 := HX11.out.chg.cell HA0.out
              have a1 := HX11.out.chg.cell HA1.out
              have b0 := HX11.out.chg.cell HB0.out
              have b1 := HX11.out.chg.cell HB1.out
              go_upto_region 13 with (go_at_call 21; refine HPN.out.mono ?_; rintro _ w12 ⟨rfl, hc12⟩; have HC12 := Lib.hid hc12; clear hc12)
              have hca := Chg.alloc (fun _ => False) w12 (.cells #[.int .i64 0, .int .i64 0, .string ⟨#[]⟩, .string ⟨#[]⟩, .slice none 0 0, .slice none 0 0, .int .i64 0, .int .i64 0, .int .i64 0, .bool false, .bool false, .slice none 0 0] 40)
              have HC13 := Lib.hid (HC12.out.trans' hca)
              have HB11 := Lib.hid (alloc_block w12 (.cells #[.int .i64 0, .int .i64 0, .string ⟨#[]⟩, .string ⟨#[]⟩, .slice none 0 0, .slice none 0 0, .int .i64 0, .int .i64 0, .int .i64 0, .bool false, .bool false, .slice none 0 0] 40))
              clear hca HC12 HPN a0 a1 b0 b1
              generalize w12.alloc (.cells #[.int .i64 0, .int .i64 0, .string ⟨#[]⟩, .string ⟨#[]⟩, .slice none 0 0, .slice none 0 0, .int .i64 0, .int .i64 0, .int .i64 0, .bool false, .bool false, .slice none 0 0] 40) = w13 at *
              generalize w12.heap.size = b11 at *
              have HCW := Lib.hid (HX11.out.chg.trans' HC13.out)
              have a0 := HCW.out.cell HA0.out
              have a1 := HCW.out.cell HA1.out
              have b0 := HCW.out.cell HB0.out
              have b1 := HCW.out.cell HB1.out
              go_upto_region 14 with (go_at_call 24; refine (HMAY1.out _ HCW.out).mono ?_; rintro _ w14 ⟨rfl, hc14⟩; have HC14 := Lib.hid hc14; clear hc14)
              have hk := HC13.out.trans' HC14.out
              have g7 := hk.keep HB7.out (fun x => x)
              have g10 := hk.keep HB10.out (fun x => x)
              have g11 := HC14.out.keep HB11.out (fun x => x)
              have u0 := cell_of_block (i := 0) g7 rfl
              have u1 := cell_of_block (i := 1) g7 rfl
              have u2 := cell_of_block (i := 2) g7 rfl
              have u3 := cell_of_block (i := 3) g7 rfl
              have u4 := cell_of_block (i := 4) g7 rfl
              have v0 := cell_of_block (i := 0) g10 rfl
              have v1 := cell_of_block (i := 1) g10 rfl
              have v2 := cell_of_block (i := 2) g10 rfl
              have v3 := cell_of_block (i := 3) g10 rfl
              have v4 := cell_of_block (i := 4) g10 rfl
              have m0 := cell_of_block (i := 0) g11 rfl
              have m1 := cell_of_block (i := 1) g11 rfl
              have m2 := cell_of_block (i := 2) g11 rfl
              have m3 := cell_of_block (i := 3) g11 rfl
              have m4 := cell_of_block (i := 4) g11 rfl
              have m5 := cell_of_block (i := 5) g11 rfl
              have m6 := cell_of_block (i := 6) g11 rfl
              have m7 := cell_of_block (i := 7) g11 rfl
              have m8 := cell_of_block (i := 8) g11 rfl
              have m9 := cell_of_block (i := 9) g11 rfl
              have m10 := cell_of_block (i := 10) g11 rfl
              have m11 := cell_of_block (i := 11) g11 rfl
              simp only [List.getElem_toArray, List.getElem_cons_zero, List.getElem_cons_succ] at u0 v0 u1 v1 u2 v2 u3 v3 u4 v4 m0 m1 m2 m3 m4 m5 m6 m7 m8 m9 m10 m11
              have HSM := Lib.hid (fun W (hc : Chg (fun _ => False) w11 W) => same48_any W p1 q1 p1 q1 c1 d1 c1 d1 h (HHV.out.still hc) (HHV.out.still hc) HEN.out HL100.out)
              have HSV := Lib.hid (fun W => (show Calls Tryd.prog 16 #[.agg #[.int .i64 0, .int .i64 0, .string ⟨#[]⟩, .string ⟨#[]⟩, .slice none 0 0, .slice none 0 0, .int .i64 0, .int .i64 0, .int .i64 0, .bool false, .bool false, .slice none 0 0], .agg #[.int .i64 0, .int .i64 0, .string ⟨#[]⟩, .string ⟨#[]⟩, .slice none 0 0, .slice none 0 0, .int .i64 0, .int .i64 0, .int .i64 0, .bool false, .bool false, .slice none 0 0]] W fun e w' => e = .returned (.bool true) ∧ Chg (fun _ => False) W w' from sameMove_any (D := fun _ => False) (E := fun _ => False) (F := fun _ => False) (G := fun _ => False) W Ent0 0 false false [] none none none none none none 0 0 0 0 0 0 0 0 0 0 0 0 (MsgAt.none _ _) (MsgAt.none _ _) encOk0 (SeenN.none _ _ _) (SeenN.none _ _ _)))
              have HK2 := Lib.hid hk
              have HCH := Lib.hid (HX11.out.chg.trans' hk)
              clear g7 g10 g11 hk a0 a1 b0 b1
              go_wp2_with (first
                | (go_at_call 17; refine (HSM.out _ HK2.out).mono ?_; rintro _ w15 ⟨rfl, hc15⟩; have HC15 := Lib.hid hc15; have m0 := hc15.cell m0; have m1 := hc15.cell m1; have m2 := hc15.cell m2; have m3 := hc15.cell m3; have m4 := hc15.cell m4; have m5 := hc15.cell m5; have m6 := hc15.cell m6; have m7 := hc15.cell m7; have m8 := hc15.cell m8; have m9 := hc15.cell m9; have m10 := hc15.cell m10; have m11 := hc15.cell m11; clear hc15)
                | (go_at_call 16; refine (HSV.out _).mono ?_; rintro _ w16 ⟨rfl, hc16⟩; have HC16 := Lib.hid hc16; clear hc16))
              go_ret
              exact ⟨rfl, ((HCB.out.trans' HCH.out).trans' (HC15.out.trans' HC16.out)).below (Nat.le_refl _) (fun k x => x.elim)⟩
end Go.Proofs.YtiecgbmeobpomaaDoor
namespace Go.Proofs.YtiecgbmeobpomaaDoor
open Go.RowKit Go.ChangeShapes
set_option linter.unusedVariables false
set_option linter.unusedSimpArgs false

theorem first_eq : (Rows.laid_unicode_utf8_first : DataW Unit) = Lib.firstData := (show (Rows.laid_unicode_utf8_first : DataW Unit) = Pinned.utf8First from rfl).trans Pinned.utf8First_eq
theorem accept_eq : (Rows.laid_unicode_utf8_acceptRanges : DataW Unit) = Lib.acceptData := by kernel_rfl
set_option maxRecDepth 100000 in
theorem utf8_of_laid48 {W : World} (h : laidMetH Tryd.prog Rows.historyEvictRow.laid W) : Lib.Utf8Tabs 0 1 W := by
  rw [MakeChecks.laidMetH_plain _ _ _ (by kernel_rfl)] at h
  have r3 := Lib.laidMet.reads h (n := "unicode/utf8.first") (d := Rows.laid_unicode_utf8_first) (.tail _ (.head _))
  have r4 := Lib.laidMet.reads h (n := "unicode/utf8.acceptRanges") (d := Rows.laid_unicode_utf8_acceptRanges) (.head _)
  rw [first_eq] at r3
  rw [accept_eq] at r4
  exact utf8Tabs_of_readsT (U8Types.of196 sh_lays196) ⟨by kernel_rfl, by kernel_rfl, by kernel_rfl, by kernel_rfl, by kernel_rfl, by kernel_rfl, by kernel_rfl⟩ r3 r4
end Go.Proofs.YtiecgbmeobpomaaDoor
namespace Go.Proofs.YtiecgbmeobpomaaDoor
set_option linter.unusedVariables false
open Go.ChangeShapes Go.WideShapes Go.ChangeAt Go.RowKit

theorem trod_lengths {P : Program} {H : Type} {enc : TypeId × Value → H} {W : World} : ∀ (ts : List TypeId) (vs : List Value) (ds : List (DataW H)) (ps : List MemPlace), DataW.TrodAll enc P W 0 (fun _ => true) true ts vs ds ps → ds.length = ts.length := by
  intro ts
  induction ts with
  | nil => intro vs ds ps h; cases vs <;> cases ds <;> first | rfl | exact h.elim
  | cons t ts ih => intro vs ds ps h; cases vs <;> cases ds <;> first | exact h.elim | (obtain ⟨_, _, _, h2, _⟩ := h; simp [ih _ _ _ h2])

/-- A law's contract lifted to its row, over listed variables. -/
theorem law_liftD {C : Checked} {os : Os} {f : FuncId} {fn : Func} {s : ChangeSpec} {H : Type} {enc : TypeId × Value → H} {tb : TypeId} {F : Stop.Interp} {laid : List (String × DataW Unit)} (started : os.Started)
    (own : ownKnob C.prog.godebug = none) (hl : laidOutB C.prog = true) (noInit : C.prog.inits.idxOf? f = none) (hfn : C.prog.funcs[f]? = some fn) (hts : rowed C.prog fn.params.toList = true) (hres : fn.resultTypes = #[tb]) (hbool : C.prog.underlying tb = some .bool) (hvars : s.vars = [])
    (hargs : ∀ ds : List (DataW H), ds.length = fn.params.toList.length → s.fn H ds = { results := [.lit (.bool true)], args := ds })
    (witness : ∃ (w : World) (tape : Tape) (i : Input), w.os = os ∧ (w.forCall tape i).Shaped C.prog ∧ i.vars = [] ∧ Input.okWide C.prog (w.forCall tape i) .any w.heap.size f i ∧
      (OpenSpec.ofChange s).preRow enc C.prog fn [] false laid (w.forCall tape i).memory i.args ∧ Assume.holds {} C.prog (lone (Frame.enter C.prog f i.args .normal) [] (w.forCall tape i)))
    (core : ∀ (W : World) (base : Nat) (vs : List Value) (ds : List (DataW H)) (ps : List MemPlace), (∀ (j : Nat) t v, fn.params.toList[j]? = some t → vs[j]? = some v → Value.okWide C.prog W .any base t v) →
      DataW.TrodAll enc C.prog W 0 (fun _ => true) true fn.params.toList vs ds ps → (DataW.weightsEach C.prog fn.params.toList ds).all (· ≤ reachBytes) = true → laidMetH C.prog laid W →
      Calls C.prog f vs.toArray W fun e W' => e = .returned (.bool true) ∧ Below W.heap.size W W') :
    ReturnsInHanded {} C os f .any ((OpenSpec.ofChange s).preRow enc C.prog fn [] false laid) (((OpenSpec.ofChange s).at F).post enc C.prog fn false true false false) := by
  refine returnsInHanded_of_row (C := C) (s := OpenSpec.ofChange s) own started noInit hfn witness ?_
  intro W base args ds gs before hval hW _ _ hsz hL _ _
  have hW' : DataW.Whole enc C.prog fn.params.toList s.vars false W args.toList ds gs before := hW
  obtain ⟨p, q, hA, hV, rfl, hfz, hnd⟩ := hW'
  have hV' : DataW.TrodVars enc C.prog W (fun _ => true) s.vars gs q := hV
  rw [hvars] at hV'
  obtain ⟨rfl, rfl⟩ := trodVars_none hV'
  simp only [List.append_nil] at hsz
  have hlen : ds.length = fn.params.toList.length := trod_lengths _ _ _ _ hA
  have hvt : (OpenSpec.ofChange s).bare.plain.varTypes C.prog = [] := by simp [OpenSpec.ofChange, OpenSpec.bare, DataSpec.varTypes, ChangeSpec.plain, hvars]
  rw [hvt, List.append_nil] at hsz
  have := core W base args.toList ds p (fun j t v h1 h2 => hval j t v (by simpa using h1) (by simpa using h2)) hA hsz hL
  rw [Array.toArray_toList] at this
  refine this.mono fun e W' ⟨he, hb⟩ => ⟨_, he, ?_⟩
  exact (law_post (s := s) hl hts hres hbool hvars hW (by rw [List.append_nil]; exact hargs ds hlen) hb)

/-- The same for the second row (bulk at most 1048576). -/
theorem law_liftD_upto {C : Checked} {os : Os} {f : FuncId} {fn : Func} {s : ChangeSpec} {H : Type} {enc : TypeId × Value → H} {tb : TypeId} {F : Stop.Interp} {laid : List (String × DataW Unit)} (started : os.Started)
    (own : ownKnob C.prog.godebug = none) (hl : laidOutB C.prog = true) (noInit : C.prog.inits.idxOf? f = none) (hfn : C.prog.funcs[f]? = some fn) (hts : rowed C.prog fn.params.toList = true) (hres : fn.resultTypes = #[tb]) (hbool : C.prog.underlying tb = some .bool) (hvars : s.vars = [])
    (hargs : ∀ ds : List (DataW H), ds.length = fn.params.toList.length → s.fn H ds = { results := [.lit (.bool true)], args := ds })
    (witness : ∃ (w : World) (tape : Tape) (i : Input), w.os = os ∧ (w.forCall tape i).Shaped C.prog ∧ i.vars = [] ∧ Input.okWide C.prog (w.forCall tape i) .any w.heap.size f i ∧
      (Rows.OpenSpec.upto s).preRow enc C.prog fn [] false laid (w.forCall tape i).memory i.args ∧ Assume.holds {} C.prog (lone (Frame.enter C.prog f i.args .normal) [] (w.forCall tape i)))
    (core : ∀ (W : World) (base : Nat) (vs : List Value) (ds : List (DataW H)) (ps : List MemPlace), (∀ (j : Nat) t v, fn.params.toList[j]? = some t → vs[j]? = some v → Value.okWide C.prog W .any base t v) →
      DataW.TrodAll enc C.prog W 0 (fun _ => true) true fn.params.toList vs ds ps → Rows.uptoBulkAll ds ≤ 1048576 → laidMetH C.prog laid W →
      Calls C.prog f vs.toArray W fun e W' => e = .returned (.bool true) ∧ Below W.heap.size W W') :
    ReturnsInHanded {} C os f .any ((Rows.OpenSpec.upto s).preRow enc C.prog fn [] false laid) (((Rows.OpenSpec.upto s).at F).post enc C.prog fn false true false false) := by
  refine returnsInHanded_of_row (C := C) (s := Rows.OpenSpec.upto s) own started noInit hfn witness ?_
  intro W base args ds gs before hval hW _ hk _ hL _ _
  have hW' : DataW.Whole enc C.prog fn.params.toList s.vars false W args.toList ds gs before := hW
  obtain ⟨p, q, hA, hV, rfl, hfz, hnd⟩ := hW'
  have hV' : DataW.TrodVars enc C.prog W (fun _ => true) s.vars gs q := hV
  rw [hvars] at hV'
  obtain ⟨rfl, rfl⟩ := trodVars_none hV'
  have hk2 := hk Rows.uptoSmall rfl
  simp only [List.append_nil] at hk2
  have hlen : ds.length = fn.params.toList.length := trod_lengths _ _ _ _ hA
  have := core W base args.toList ds p (fun j t v h1 h2 => hval j t v (by simpa using h1) (by simpa using h2)) hA (of_decide_eq_true hk2) hL
  rw [Array.toArray_toList] at this
  refine this.mono fun e W' ⟨he, hb⟩ => ⟨_, he, ?_⟩
  exact (law_post (s := s) hl hts hres hbool hvars hW (by rw [List.append_nil]; exact hargs ds hlen) hb)
end Go.Proofs.YtiecgbmeobpomaaDoor
namespace Go.Proofs.YtiecgbmeobpomaaDoor
open Go.RowKit Go.ChangeShapes Go.WideShapes Go.ChangeAt
open Go.ChangeMaps (open_string shut_string)
set_option linter.unusedVariables false
set_option linter.unusedSimpArgs false

set_option maxRecDepth 100000 in
theorem historyStates_laid (os : Os) : laidMetH Tryd.prog Rows.historyStatesRow.laid ((World.laidAll Tryd.prog os Rows.historyStatesRow.laid).forCall (fun _ _ => 0) ⟨#[], #[.slice none 0 0, .agg #[.slice none 0 0, .slice none 0 0], .agg #[.slice none 0 0, .slice none 0 0]], []⟩).memory := by
  rw [MakeChecks.laidMetH_plain _ _ _ (by kernel_rfl)]
  exact laidMet_laidAll _ (by kernel_rfl) (by kernel_rfl)
set_option maxRecDepth 100000 in
theorem historyStates_lifted (os : Os) (started : os.Started) (H : Type) (enc : TypeId × Value → H) (F : Stop.Interp) :
    ReturnsInHanded {} Tryd.checked os 7 .any ((OpenSpec.ofChange Rows.historyStatesSpec).preRow enc Tryd.prog Tryd.f7 [] false Rows.historyStatesRow.laid) (((OpenSpec.ofChange Rows.historyStatesSpec).at F).post enc Tryd.prog Tryd.f7 false true false false) := by
  obtain ⟨places, hx⟩ : ∃ places, DataW.whole enc Tryd.prog ((World.laidAll Tryd.prog os Rows.historyStatesRow.laid).forCall (fun _ _ => 0) ⟨#[], #[.slice none 0 0, .agg #[.slice none 0 0, .slice none 0 0], .agg #[.slice none 0 0, .slice none 0 0]], []⟩).memory Tryd.f7.params.toList [] false (#[.slice none 0 0, .agg #[.slice none 0 0, .slice none 0 0], .agg #[.slice none 0 0, .slice none 0 0]] : Array Value).toList 8 = some ([.nil, .agg [.nil, .nil], .agg [.nil, .nil]], [], places) := ⟨[], by kernel_rfl⟩
  refine law_liftD (C := Tryd.checked) (s := Rows.historyStatesSpec) (tb := 4) started Tryd.own Tryd.laidOut (by kernel_rfl) Tryd.func7 (by kernel_rfl) rfl Tryd.underlying4 rfl ?_
    (witness_row_at (enc := enc) (C := Tryd.checked) false (World.laidAll Tryd.prog os Rows.historyStatesRow.laid) #[.slice none 0 0, .agg #[.slice none 0 0, .slice none 0 0], .agg #[.slice none 0 0, .slice none 0 0]] (World.laidAll_os _ _ _) (by kernel_rfl) (by kernel_rfl) (by kernel_rfl)
      (OpenSpec.preRow_of_cond 8 hx (by kernel_rfl) (fun k hk => by cases hk) (by kernel_rfl) (historyStates_laid os))) ?_
  · intro ds h
    match ds, h with
    | [_, _, _], _ => rfl
  · intro W base vs ds ps hval hA hsz hL
    have hp : Tryd.f7.params.toList = [22, 32, 32] := by rw [Tryd.params7]
    rw [hp] at hval hA hsz
    obtain ⟨v0, vs0, d0, ds0, p0, q0, rfl, rfl, rfl, h0, r0⟩ := trodAll_cons hA
    obtain ⟨v1, vs1, d1, ds1, p1, q1, rfl, rfl, rfl, h1, r1⟩ := trodAll_cons r0
    obtain ⟨v2, vs2, d2, ds2, p2, q2, rfl, rfl, rfl, h2, r2⟩ := trodAll_cons r1
    obtain ⟨rfl, rfl, rfl⟩ := trodAll_nil r2
    obtain ⟨a0, rfl, w0⟩ := open_opsS (hval 0 22 v0 rfl rfl) h0 (fun n hn => by have := List.all_eq_true.1 hsz n (DataW.weights_mem_each (j := 0) (t := 22) rfl rfl n hn); simpa using this)
    obtain ⟨a1, rfl, w1⟩ := open_msgvS (hval 1 32 v1 rfl rfl) h1 (fun n hn => by have := List.all_eq_true.1 hsz n (DataW.weights_mem_each (j := 1) (t := 32) rfl rfl n hn); simpa using this)
    obtain ⟨a2, rfl, w2⟩ := open_msgvS (hval 2 32 v2 rfl rfl) h2 (fun n hn => by have := List.all_eq_true.1 hsz n (DataW.weights_mem_each (j := 2) (t := 32) rfl rfl n hn); simpa using this)
    exact historyStates_walk W a0.1 a0.2 a1 a2 w0.1 w0.2.1 w0.2.2 w1 w2 (utf8_of_laid48 hL)

theorem historyStates_said : Rows.HistoryStatesSaid :=
  OpenClaim.holds_of_cond 7 Tryd.f7 rfl rfl rfl rfl rfl rfl rfl ⟨rfl, rfl, rfl, rfl, rfl⟩ rfl rfl rfl rfl rfl (by kernel_rfl) Tryd.func7 (by kernel_rfl)
    (of_decide_eq_true (by kernel_rfl)) (by unfold Func.isWrapper; first | (rw [if_pos (by decide +kernel)]; kernel_rfl) | (rw [if_neg (by decide +kernel)]; exact ⟨rfl, rfl⟩))
    (fun os started H enc _ F => by rw [OpenClaim.pre_eq_preRow]; exact historyStates_lifted os started H enc F)
theorem historyStates_plain (f : FuncId) (fn : Func) (hf : Tryd.pinned.checked.prog.funcNamed "knapsack/knapsacklaw48.HistoryStates" = some f) (hfn : Tryd.pinned.checked.prog.funcs[f]? = some fn) :
    false = Tryd.pinned.checked.prog.looks [] ∧ ∀ (j : Nat) t, fn.params[j]? = some t → Tryd.pinned.checked.prog.wantsStandIn t = false := by
  obtain rfl : f = 7 := Option.some.inj ((show Tryd.prog.funcNamed "knapsack/knapsacklaw48.HistoryStates" = some 7 by kernel_rfl).symm.trans hf) |>.symm
  obtain rfl : fn = Tryd.f7 := (Option.some.inj (Tryd.func7.symm.trans hfn)).symm
  refine ⟨by kernel_rfl, fun j t ht => ?_⟩
  rw [Tryd.params7] at ht
  have hm : t ∈ [22, 32, 32] := by simpa using Array.mem_of_getElem? ht
  have hall : ([22, 32, 32].all fun u => !Tryd.prog.wantsStandIn u) = true := by kernel_rfl
  exact (show Tryd.prog.wantsStandIn t = false by simpa using List.all_eq_true.1 hall t hm)
/-- The tied card. -/
theorem historyStates_holds : Rows.HistoryStatesCardSaid :=
  Claim7.holds_tied_plain_at .later [] _ _ _ _ historyStates_said (fun _ h => by cases h) (by kernel_rfl) (fun _ h => by cases h) historyStates_row_tie rfl ⟨rfl, rfl⟩ (by kernel_rfl) rfl historyStates_plain (by kernel_rfl)
#print axioms historyStates_holds
end Go.Proofs.YtiecgbmeobpomaaDoor
