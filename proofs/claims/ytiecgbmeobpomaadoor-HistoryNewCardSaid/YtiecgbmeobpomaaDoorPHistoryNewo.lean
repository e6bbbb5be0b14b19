/-
  The law HistoryNew: the walk.
  What the rows' listed variables give: the tables of unicode/utf8.
  Lifting a law's walk to its statement where the row lists package-level variables ('laid'): both forms of the statement.
-/
import Derived.Test.YtiecgbmeobpomaaDoorPHistoryNewn
import Derived.Test.YtiecgbmeobpomaaDoorRows
import Derived.Test.YtiecgbmeobpomaaDoorPHistoryNewg
import Derived.MakeChecks
import Derived.Test.YtiecgbmeobpomaaDoorPHistoryNewa
import Derived.Deep.DeepHandedRow
import Derived.SevenTiedAt
import Derived.Lay
import Derived.LaidMore
import Derived.Stop.Joined
namespace Go.Proofs.YtiecgbmeobpomaaDoor
open Go.RowKit
set_option linter.unusedVariables false
set_option linter.unusedSimpArgs false

set_option maxHeartbeats 12800000 in
set_option maxRecDepth 100000 in
theorem historyNew_walk (w : World) (v : Value) (l : List OpR) (url : ByteArray) (push : Bool) (h : ArgRows w v 6 (l.map OpR.cells)) (hok : ∀ r ∈ l, OpOk w r) (hlt : ∀ r ∈ l, MsgLite r.o.msg) (hU : Lib.Utf8Tabs 0 1 w) :
    Calls Tryd.prog 6 #[v, .string url, .bool push] w fun e w' => e = .returned (.bool true) ∧ Below w.heap.size w w' := by
  have HFIT := Lib.hid (fit_any w)
  have HFEW := Lib.hid (fun W hc => few_any w v l h hok W hc)
  obtain ⟨a, cap, rfl, hlc, hcm, -⟩ := id h
  have HA := Lib.hid h
  rw [List.length_map] at HA HFEW ⊢
  have HOK := Lib.hid hok
  have HU := Lib.hid hU
  have HFF := Lib.hid (fun (e : fewB l = true) => And.intro (fewB_fit e hok) (fewB_enc e hok hlt))
  clear h hok hU hlc hcm hlt
  generalize hfb : fewB l = fb at *
  cases fb with
  | false =>
    clear HFF hfb
    go_enter Tryd.func6, Tryd.ntmps6
    go_wp2_with (first
      | (go_at_call 11; refine HFIT.out.mono ?_; rintro _ w1 ⟨rfl, hc1⟩; have HC1 := Lib.hid hc1; clear hc1)
      | (go_at_call 12; refine (HFEW.out _ HC1.out).mono ?_; rintro _ w2 ⟨rfl, hc2⟩; have HC2 := Lib.hid hc2; clear hc2))
    go_ret
    exact ⟨rfl, (HC1.out.trans' HC2.out).below (Nat.le_refl _) (fun k x => x.elim)⟩
  | true =>
    obtain ⟨⟨hl60, hff⟩, henc⟩ := HFF.out rfl
    have HL60 := Lib.hid hl60
    have HFT := Lib.hid hff
    have HEO := Lib.hid henc
    have hll : (l.length : Int) ≤ 60 := by omega
    clear HFF hfb hl60 hff henc
    go_enter Tryd.func6, Tryd.ntmps6
    go_upto_region 5 with (first
      | (go_at_call 11; refine HFIT.out.mono ?_; rintro _ w1 ⟨rfl, hc1⟩; have HC1 := Lib.hid hc1; clear hc1)
      | (go_at_call 12; refine (HFEW.out _ HC1.out).mono ?_; rintro _ w2 ⟨rfl, hc2⟩; have HC2 := Lib.hid hc2; clear hc2))
    have HNEW := Lib.hid (new_any w2 ⟨#[]⟩)
    go_upto_region 6 with (go_at_call 13; refine HNEW.out.mono ?_; rintro _ w3 ⟨vl, rfl, hc3, hr3, ho3⟩; obtain ⟨al, cl, rfl, -, -⟩ := hr3.slice)
    have hca := Chg.alloc (fun _ => False) w3 (.cells #[.slice al 1 cl, .int .i64 0, .int .i64 2, .int .i64 2, .slice none 0 0] 28)
    have hb1 := alloc_block w3 (.cells #[.slice al 1 cl, .int .i64 0, .int .i64 2, .int .i64 2, .slice none 0 0] 28)
    have hc0 := (HC1.out.trans' HC2.out).trans' hc3
    have h4 := newHi (w0 := ⟨w, fun _ => False⟩) (url := ⟨#[]⟩) hb1 (hr3.chg hca (fun _ _ x => x)) (hc0.trans' hca) (fun k hk => ⟨Nat.le_trans (HC1.out.trans' HC2.out).size (ho3 k hk), by have := hr3.lt k hk; omega⟩) hc0.size (fun k x => x.elim)
    have HH0 : Hid (∃ vl vs rs, HiAt ⟨w, fun _ => False⟩ (w3.alloc (.cells #[.slice al 1 cl, .int .i64 0, .int .i64 2, .int .i64 2, .slice none 0 0] 28)) w3.heap.size (histK ⟨#[]⟩ l 0) vl vs rs) := Lib.hid ⟨_, _, _, h4⟩
    clear hca hb1 hc0 h4 hc3 hr3 ho3 HFIT HFEW HNEW
    generalize w3.alloc (.cells #[.slice al 1 cl, .int .i64 0, .int .i64 2, .int .i64 2, .slice none 0 0] 28) = w4 at *
    generalize w3.heap.size = b7 at *
    go_wp2_with fail
    go_loopw [9, 24] (fun _ i wr => ∃ k : Nat, k ≤ l.length ∧ i = .int .i64 k ∧ Hid (∃ vl vs rs, HiAt ⟨w, fun _ => False⟩ wr b7 (histK ⟨#[]⟩ l k) vl vs rs)) (fun _ i _ => l.length - (intOf i).toNat)
    case atStart => exact ⟨0, Nat.zero_le _, rfl, HH0⟩
    case round =>
      obtain ⟨k, hk, rfl, HX⟩ := hrel
      by_cases hlt : k < l.length
      · have k0 : (0 : Int) ≤ (k : Int) := by omega
        have k1 : (k : Int) < (l.length : Int) := by omega
        have w64 : IntKind.i64.wrap ((k : Int) + 1) = ((k + 1 : Nat) : Int) := IntWalk.i64_in _ (by omega)
        obtain ⟨vl, vs, rs, hx⟩ := HX.out
        obtain ⟨g, off, rfl, -, hcel⟩ := opCell HA.out hx.chg hlt
        have e0 := hcel 0 _ rfl
        have e1 := hcel 1 _ rfl
        have e2 := hcel 2 _ rfl
        have e3 := hcel 3 _ rfl
        have e4 := hcel 4 _ rfl
        have e5 := hcel 5 _ rfl
        rw [Nat.add_zero] at e0
        have hst := hx.still (Chg.alloc (fun _ => False) wr (.cells l[k].cells.toArray 38))
        have hdo := do_step HOK.out HU.out HL60.out HFT.out hlt hst
        have HNX : Hid (k + 1 ≤ l.length) := Lib.hid hlt
        unfold OpR.cells at hdo
        have HDO := Lib.hid hdo
        clear hcel hx hst hdo HX hk
        generalize l[k] = r at *
        clear hlt
        go_wp2_with (go_at_call 15; refine HDO.out.mono ?_; rintro _ w6 ⟨zv, rfl, hX6⟩; obtain ⟨vl6, vs6, rs6, h6, -, -⟩ := hX6.opx; have HH6 := Lib.hid h6; clear h6 hX6)
        go_roundw
        case rel => exact ⟨k + 1, HNX.out, rfl, Lib.hid ⟨_, _, _, HH6.out⟩⟩
        case measure => have := HNX.out; simp [intOf, w64]; omega
      · have hke : k = l.length := by omega
        subst hke
        have i1 : ¬ (l.length : Int) < (l.length : Int) := by omega
        obtain ⟨hOK, hPG⟩ := histK_ok (url := ⟨#[]⟩) HL60.out HFT.out l.length
        have HEN := Lib.hid (histK_enc (url := ⟨#[]⟩) HL60.out HFT.out HEO.out l.length)
        have HVA := Lib.hid (histK_va (url := ⟨#[]⟩) HL60.out HFT.out l.length)
        have HX0 := Lib.hid HX.out
        clear hlt hk HX
        generalize histK ⟨#[]⟩ l l.length = h at *
        have HOK8 := Lib.hid hOK
        have HPG := Lib.hid hPG
        clear hOK hPG
        obtain ⟨vl, vs, rs, hx⟩ := HX0.out
        have hrl := hx.len
        obtain ⟨ga, oa, c1, rfl, hnc, hcm⟩ := hx.row.addr (by have := hx.ok; omega)
        have hca := Chg.alloc (fun _ => False) wr (.cells #[] 34)
        have s0 := hca.cell (cell_of_block (i := 0) hx.box rfl)
        have s1 := hca.cell (cell_of_block (i := 1) hx.box rfl)
        simp only [List.getElem_toArray, List.getElem_cons_zero, List.getElem_cons_succ] at s0 s1
        have hat := hx.ok
        have hln := HOK8.out.len
        have hro := nodes8_ones hx (k := (h.at_ + 1) * 8)
        have HRW := Lib.hid ((RowAt.prefix hx.row (m := h.at_ + 1) (by omega)).alloc (.cells #[] 34))
        have HHX := Lib.hid hx
        have HRO := Lib.hid hro
        have wat : IntKind.i64.wrap ((h.at_ : Int) + 1) = ((h.at_ + 1 : Nat) : Int) := IntWalk.i64_in _ (by omega)
        have t1 : h.at_ + 1 ≤ c1 := by omega
        have t2 : ((h.at_ + 1 : Nat) : Int) ≤ (c1 : Int) := by omega
        have t3 : ¬ ((c1 : Int) < ((h.at_ + 1 : Nat) : Int)) := by omega
        have t4 : (0 : Int) ≤ ((h.at_ + 1 : Nat) : Int) := by omega
        have HLEN : Hid (h.at_ < h.list.length ∧ h.list.length ≤ 50) := Lib.hid ⟨hat, hln⟩
        clear hx HX0 hrl hat hln hca hro hnc hcm
        go_upto_region 12 with (at_builtin; refine list_append_rows rfl (.tmp 31) (.tmp 37) 25 rfl 34 8 112 Tryd.underlying25 elem_ent (by decide) _ 0 [] rfl (RowAt.lit (n := 0) (size := 8) [] rfl (by simp [maxLen])) _ (h.at_ + 1) _ rfl HRW.out HRO.out (by have := HLEN.out; unfold maxLen; omega) (by have := HLEN.out; omega) ?_; intro a1 n1 d1 w10 hrow1 hchg1 hold1)
        have hchg1 : Chg (fun k => (Value.slice (some ⟨wr.heap.size, 0, none⟩) 0 0).ownBlock = some k) (wr.alloc (.cells #[] 34)) w10 := hchg1
        have hold1 : ∀ k, (Value.slice a1 n1 d1).ownBlock = some k → (Value.slice (some ⟨wr.heap.size, 0, none⟩) 0 0).ownBlock = some k ∨ (wr.alloc (.cells #[] 34)).heap.size ≤ k := hold1
        clear s0 s1 t1 t2 t3 t4 wat
        have hn1 : n1 = h.at_ + 1 := by
          obtain ⟨_, _, hv, -, -⟩ := hrow1.slice
          simp only [Value.slice.injEq] at hv
          rw [hv.2.1]; omega
        rw [List.nil_append, Nat.zero_add] at hrow1
        rw [hn1] at hrow1 hold1
        have HN1 := Lib.hid hn1
        clear hn1
        have hc10 : Chg (fun _ => False) wr w10 := (Chg.alloc (fun _ => False) wr _).trans hchg1 (fun _ _ x => x) (fun k hk e => by
          have : k = wr.heap.size := by simpa [Value.ownBlock] using e.symm
          omega)
        have HBE0 := Lib.hid (HHX.out.copied hc10 (m := h.at_ + 1) (by have := HLEN.out; omega) hrow1 (fun k hk => by
          rcases hold1 k hk with e | e
          · have : k = wr.heap.size := by simpa [Value.ownBlock] using e.symm
            omega
          · rw [World.size_alloc] at e; omega))
        have HH10 := Lib.hid (HHX.out.still hc10)
        have HMLT := Lib.hid HHX.out.mutLt
        have HH0S : Hid (w.heap.size ≤ wr.heap.size) := Lib.hid HHX.out.chg.size
        have HSZ : Hid (wr.heap.size ≤ w10.heap.size) := Lib.hid hc10.size
        clear hc10 hrow1 hchg1 hold1 HRW HRO
        have HCU := Lib.hid (current_any _ w10 b7 h _ _ rs HH10.out (curE h) (curE_get h HH10.out.ok))
        obtain ⟨ec, hec⟩ : ∃ e, e = curE h := ⟨_, rfl⟩
        rw [← hec] at HCU
        have HEC := Lib.hid hec
        clear hec
        go_upto_region 13 with (go_at_call 19; refine HCU.out.mono ?_; rintro _ w11 ⟨qn, qp, rfl, hc11, hm11⟩; obtain ⟨⟨bn, bnn, bnc, rfl⟩, bp, bpn, bpc, rfl⟩ := hm11.vals; unfold EntC; have HC11 := Lib.hid hc11; clear hc11 hm11)
        have hca := Chg.alloc (fun _ => False) w11 (.cells #[.int .i64 ec.id, .int .i64 ec.page, .string ec.url, .string ec.title, .slice bn bnn bnc, .slice bp bpn bpc, .int .i64 ec.x, .int .i64 ec.y] 34)
        have HB11 := Lib.hid (alloc_block w11 (.cells #[.int .i64 ec.id, .int .i64 ec.page, .string ec.url, .string ec.title, .slice bn bnn bnc, .slice bp bpn bpc, .int .i64 ec.x, .int .i64 ec.y] 34))
        have HC12 := Lib.hid (HC11.out.trans' hca)
        have HH11 := Lib.hid (HH10.out.still HC12.out)
        have HBE1 := Lib.hid (HBE0.out.still HC12.out)
        have HSZ2 : Hid (w10.heap.size ≤ w11.heap.size) := Lib.hid HC11.out.size
        clear hca HC11 HH10 HBE0 HCU HHX
        generalize w11.alloc (.cells #[.int .i64 ec.id, .int .i64 ec.page, .string ec.url, .string ec.title, .slice bn bnn bnc, .slice bp bpn bpc, .int .i64 ec.x, .int .i64 ec.y] 34) = w12a at *
        generalize w11.heap.size = b11 at *
        go_upto_region 14 with fail
        obtain ⟨w0', hwe, hwx, hh12⟩ := HH11.out.beside (.cells #[.int .i64 0, .int .i64 0, .string ⟨#[]⟩, .string ⟨#[]⟩, .slice none 0 0, .slice none 0 0, .int .i64 0, .int .i64 0, .int .i64 0, .bool false, .bool false, .slice none 0 0] 40)
        have HWE := Lib.hid hwe
        have HWX := Lib.hid hwx
        have HH12 := Lib.hid hh12
        have hca := Chg.alloc (fun _ => False) w12a (.cells #[.int .i64 0, .int .i64 0, .string ⟨#[]⟩, .string ⟨#[]⟩, .slice none 0 0, .slice none 0 0, .int .i64 0, .int .i64 0, .int .i64 0, .bool false, .bool false, .slice none 0 0] 40)
        have HB12 := Lib.hid (alloc_block w12a (.cells #[.int .i64 0, .int .i64 0, .string ⟨#[]⟩, .string ⟨#[]⟩, .slice none 0 0, .slice none 0 0, .int .i64 0, .int .i64 0, .int .i64 0, .bool false, .bool false, .slice none 0 0] 40))
        have HB11B := Lib.hid (hca.keep HB11.out (fun x => x))
        have HBE2 := Lib.hid (HBE1.out.still hca)
        have HB12L : Hid (w12a.heap.size < (w12a.alloc (.cells #[.int .i64 0, .int .i64 0, .string ⟨#[]⟩, .string ⟨#[]⟩, .slice none 0 0, .slice none 0 0, .int .i64 0, .int .i64 0, .int .i64 0, .bool false, .bool false, .slice none 0 0] 40)).heap.size) := Lib.hid (by rw [World.size_alloc]; omega)
        have HB12S : Hid (w10.heap.size ≤ w12a.heap.size ∧ b11 < w12a.heap.size) := Lib.hid ⟨HC12.out.size, (Array.getElem?_eq_some_iff.1 HB11.out).1⟩
        clear hwe hwx hh12 hca HH11 HBE1 HB11 HC12
        generalize w12a.alloc (.cells #[.int .i64 0, .int .i64 0, .string ⟨#[]⟩, .string ⟨#[]⟩, .slice none 0 0, .slice none 0 0, .int .i64 0, .int .i64 0, .int .i64 0, .bool false, .bool false, .slice none 0 0] 40) = w12 at *
        generalize w12a.heap.size = b12 at *
        cases push with
        | true =>
          have HCL := Lib.hid (push_yes _ w12 b7 h _ _ rs HH12.out (by rw [HWE.out]; exact HU.out) url Msg0 none none 0 0 0 0 (MsgAt.none _ _) msgFit0 allowed0 (by have := HOK8.out.len; omega) (by have := HOK8.out.slp; omega) (by have := HOK8.out.next; omega))
          have hno := newOk_push HOK8.out HVA.out HEN.out url
          generalize pushM h url Msg0 = h2 at *
          generalize pushV h url Msg0 = M at *
          obtain ⟨me, mpg, maw, msl, mcl⟩ := M
          have hmu : me.url = url := hno.url
          have HNO := Lib.hid hno
          have HMU := Lib.hid hmu
          clear hno hmu
          go_upto_region 17 with (go_at_call 21; refine HCL.out.mono ?_; rintro _ w13 ⟨zv, rfl, vl13, vs13, rs13, h13, hc13, hm13, vn13, vp13, vc13, rfl, hms13, hrow13, -⟩; obtain ⟨⟨mn, mnn, mnc, rfl⟩, mp, mpn, mpc, rfl⟩ := hms13.vals; obtain ⟨m11, mc11, rfl, -, -⟩ := hrow13.slice; unfold MvC; rw [HMU.out]; have HH13 := Lib.hid h13; have HC13 := Lib.hid hc13; have HMS := Lib.hid hms13; have HMX := Lib.hid hm13; clear h13 hms13 hrow13 hm13; obtain ⟨z0, q0, z1, q1, z2, q2, z3, q3, z4, q4, z5, q5, z6, q6, z7, q7, z8, q8, z9, q9, z10, q10, z11, q11, hbf, hcs⟩ := store12 (hc13.keep HB12.out (fun x => by have := HMLT.out _ x; have := HSZ.out; have := HB12S.out; omega)) (.int .i64 me.id) (.int .i64 me.page) (.string url) (.string me.title) (.slice mn mnn mnc) (.slice mp mpn mpc) (.int .i64 me.x) (.int .i64 me.y) (.int .i64 mpg) (.bool maw) (.bool msl) (.slice m11 mcl.length mc11); have HBF := Lib.hid hbf; have HCS := Lib.hid hcs; clear hbf hcs hc13)
          clear z0 q0 z1 q1 z2 q2 z3 q3 z4 q4 z5 q5 z6 q6 z7 q7 z8 q8 z9 q9 z10 q10 z11 q11
          have HH14a := Lib.hid ((HH13.out.write HCS.out (fun k x => (HWX.out k).2 (.inr x)) (fun k x => by rw [HWE.out]; have h1 := HH0S.out; have h2 := HSZ.out; have h3 := HB12S.out; have : k = b12 := x; show w.heap.size ≤ k; omega)).shrink (w0 := ⟨w, fun _ => False⟩) HWE.out (fun k x => x.elim))
          have HBE := Lib.hid ((HBE2.out.chg HC13.out (fun k _ x => .inl x) (fun _ _ x => x)).chg (D' := fun _ => False) HCS.out (fun k _ x => .inr (by have := HB12S.out; have : k = b12 := x; omega)) (fun _ _ x => x.elim))
          have HB11Y := Lib.hid (HCS.out.keep (HC13.out.keep HB11B.out (fun x => by have := HMLT.out _ x; have := HSZ.out; have := HSZ2.out; omega)) (fun x => by have := HB12S.out; have : b11 = b12 := x; omega))
          have HMSX := Lib.hid ((HMS.out.chg (D' := fun k => k = b12) (Chg.refl (fun _ => False) w13) (fun _ _ x => x.elim) (fun k hk x => .inl (by have : k = b12 := x; subst this; exact HB12L.out))).chg (D' := fun _ => False) HCS.out (fun k _ x => x) (fun _ _ x => x.elim))
          clear HH13 HC13 HCS HMS HMX HB11B HBE2
          generalize ((((((((((((w13.setCell ⟨b12, 0, none⟩ (.int .i64 me.id)).setCell ⟨b12, 1, none⟩ (.int .i64 me.page)).setCell ⟨b12, 2, none⟩ (.string url)).setCell ⟨b12, 3, none⟩ (.string me.title)).setCell ⟨b12, 4, none⟩ (.slice mn mnn mnc)).setCell ⟨b12, 5, none⟩ (.slice mp mpn mpc)).setCell ⟨b12, 6, none⟩ (.int .i64 me.x)).setCell ⟨b12, 7, none⟩ (.int .i64 me.y)).setCell ⟨b12, 8, none⟩ (.int .i64 mpg)).setCell ⟨b12, 9, none⟩ (.bool maw)).setCell ⟨b12, 10, none⟩ (.bool msl)).setCell ⟨b12, 11, none⟩ (.slice m11 mcl.length mc11)) = w14 at *
          have hx := HH14a.out
          obtain ⟨gh, oh, ch, rfl, hcc, -⟩ := hx.row.addr (by rw [hx.len]; have := hx.ok; omega)
          have hrl := hx.len
          have HCC : Hid (h2.at_ ≤ ch) := Lib.hid (by have := hx.ok; omega)
          clear hcc
          have s0 := cell_of_block (i := 0) hx.box rfl
          have s1 := cell_of_block (i := 1) hx.box rfl
          simp only [List.getElem_toArray, List.getElem_cons_zero, List.getElem_cons_succ] at s0 s1
          rw [hrl] at s0
          have HCH := Lib.hid hx.chg
          obtain ⟨p2, q2, c2, d2, hvl, -, hv2⟩ := hx.hv
          have HV2 := Lib.hid (show HvAt (fun _ => False) w14 (some ⟨gh, oh, none⟩) q2 ch d2 h2 by
            simp only [Value.slice.injEq] at hvl
            obtain ⟨rfl, _, rfl⟩ := hvl
            exact hv2)
          have HCU2 := Lib.hid (fun W (hc : Chg (fun _ => False) w14 W) => current_any _ W b7 h2 _ _ _ (hx.still hc) me (by rw [show me = curE h2 from HNO.out.cur.symm]; exact curE_get _ hx.ok))
          have HMM := Lib.hid (fun W (hc : Chg (fun _ => False) w14 W) => HMSX.out.chg hc (fun _ _ x => x.elim) (fun _ _ x => x))
          have hme := HNO.out.enc _ (curE_mem h2 hx.ok)
          rw [HNO.out.cur] at hme
          have HEM := Lib.hid hme
          have hl2 := HNO.out.len
          have hl3 := HNO.out.at_
          have hlh := HLEN.out
          obtain ⟨ct, hct⟩ : ∃ c, c = h.at_ + 2 - 50 := ⟨_, rfl⟩
          have HCT : Hid (ct ≤ 1 ∧ h.at_ + 2 - 50 = ct) := Lib.hid ⟨by omega, hct.symm⟩
          have HL2 : Hid (h2.list.length ≤ 50 ∧ h2.at_ + 1 = h2.list.length) := Lib.hid ⟨by omega, hl3⟩
          rw [← hct] at hl2
          have hn1 := HN1.out
          have B1 : -9223372036854775808 ≤ (n1 : Int) + 1 ∧ (n1 : Int) + 1 ≤ 9223372036854775807 := by omega
          have B2 : -9223372036854775808 ≤ (n1 : Int) + 1 - 50 ∧ (n1 : Int) + 1 - 50 ≤ 9223372036854775807 := by omega
          have B3 : -9223372036854775808 ≤ (h2.list.length : Int) ∧ (h2.list.length : Int) ≤ 9223372036854775807 := by omega
          have B4 : -9223372036854775808 ≤ (h2.at_ : Int) ∧ (h2.at_ : Int) ≤ 9223372036854775807 := by omega
          have e3 : (n1 : Int) + 1 - (ct : Int) = (h2.list.length : Int) := by omega
          have e4 : (h2.list.length : Int) - 1 = (h2.at_ : Int) := by omega
          have mx : max ((n1 : Int) + 1 - 50) 0 = (ct : Int) := by omega
          have wb1 : IntKind.i64.wrap ((n1 : Int) + 1) = (n1 : Int) + 1 := IntWalk.i64_in _ B1
          have wb2 : IntKind.i64.wrap ((n1 : Int) + 1 - 50) = (n1 : Int) + 1 - 50 := IntWalk.i64_in _ B2
          have wb3 : IntKind.i64.wrap ((n1 : Int) + 1 - (ct : Int)) = (h2.list.length : Int) := by rw [e3]; exact IntWalk.i64_in _ B3
          have wb4 : IntKind.i64.wrap ((h2.list.length : Int) - 1) = (h2.at_ : Int) := by rw [e4]; exact IntWalk.i64_in _ B4
          have wc1 : wrap64 ((n1 : Int) + 1) = (n1 : Int) + 1 := IntWalk.wrap64_in _ B1
          have wc2 : wrap64 ((n1 : Int) + 1 - 50) = (n1 : Int) + 1 - 50 := IntWalk.wrap64_in _ B2
          have wc3 : wrap64 ((n1 : Int) + 1 - (ct : Int)) = (h2.list.length : Int) := by rw [e3]; exact IntWalk.wrap64_in _ B3
          have wc4 : wrap64 ((h2.list.length : Int) - 1) = (h2.at_ : Int) := by rw [e4]; exact IntWalk.wrap64_in _ B4
          clear hn1 B1 B2 B3 B4 e3 e4
          have z1 : ((h2.list.length : Int) != (h2.list.length : Int)) = false := by simp
          have z2 : ((h2.at_ : Int) != (h2.at_ : Int)) = false := by simp
          have zu : (url.toList == url.toList) = true := by simp
          have z5 : (mpg == ec.page) = true := by rw [HEC.out]; exact HNO.out.page
          have z6 : ¬ me.id ≤ ec.id := Int.not_le.2 (by have := HNO.out.id; rw [← HEC.out] at this; exact this)
          have zz : Hid (∀ W, Chg (fun _ => False) w14 W → W.cell? ⟨b7, 0, none⟩ = some (.slice (some ⟨gh, oh, none⟩) h2.list.length ch) ∧ W.cell? ⟨b7, 1, none⟩ = some (.int .i64 (h2.at_ : Int))) := Lib.hid (fun W hc => ⟨hc.cell s0, hc.cell s1⟩)
          have HS0 : Hid (w14.cell? ⟨b7, 0, none⟩ = some (.slice (some ⟨gh, oh, none⟩) h2.list.length ch) ∧ w14.cell? ⟨b7, 1, none⟩ = some (.int .i64 (h2.at_ : Int)) ∧ w14.cell? ⟨b12, 0, none⟩ = some (.int .i64 me.id) ∧ w14.cell? ⟨b12, 1, none⟩ = some (.int .i64 me.page) ∧ w14.cell? ⟨b12, 2, none⟩ = some (.string url) ∧ w14.cell? ⟨b12, 3, none⟩ = some (.string me.title) ∧ w14.cell? ⟨b12, 4, none⟩ = some (.slice mn mnn mnc) ∧ w14.cell? ⟨b12, 5, none⟩ = some (.slice mp mpn mpc) ∧ w14.cell? ⟨b12, 6, none⟩ = some (.int .i64 me.x) ∧ w14.cell? ⟨b12, 7, none⟩ = some (.int .i64 me.y) ∧ w14.cell? ⟨b12, 8, none⟩ = some (.int .i64 mpg) ∧ w14.cell? ⟨b11, 0, none⟩ = some (.int .i64 ec.id) ∧ w14.cell? ⟨b11, 1, none⟩ = some (.int .i64 ec.page)) := Lib.hid ⟨s0, s1, cell_of_block (i := 0) HBF.out rfl, cell_of_block (i := 1) HBF.out rfl, cell_of_block (i := 2) HBF.out rfl, cell_of_block (i := 3) HBF.out rfl, cell_of_block (i := 4) HBF.out rfl, cell_of_block (i := 5) HBF.out rfl, cell_of_block (i := 6) HBF.out rfl, cell_of_block (i := 7) HBF.out rfl, cell_of_block (i := 8) HBF.out rfl, cell_of_block (i := 0) HB11Y.out rfl, cell_of_block (i := 1) HB11Y.out rfl⟩
          clear hx hrl hvl hv2 hme hl2 hl3 hlh hct s0 s1 HBF HB11Y HH14a HMSX
          go_upto_region 18 with fail
          refine wp_region_held_split 48 (fun w' => w'.cell? ⟨b7, 0, none⟩ = some (.slice (some ⟨gh, oh, none⟩) h2.list.length ch) ∧ w'.cell? ⟨b7, 1, none⟩ = some (.int .i64 (h2.at_ : Int)) ∧ w'.cell? ⟨b12, 0, none⟩ = some (.int .i64 me.id) ∧ w'.cell? ⟨b12, 1, none⟩ = some (.int .i64 me.page) ∧ w'.cell? ⟨b12, 2, none⟩ = some (.string url) ∧ w'.cell? ⟨b12, 3, none⟩ = some (.string me.title) ∧ w'.cell? ⟨b12, 4, none⟩ = some (.slice mn mnn mnc) ∧ w'.cell? ⟨b12, 5, none⟩ = some (.slice mp mpn mpc) ∧ w'.cell? ⟨b12, 6, none⟩ = some (.int .i64 me.x) ∧ w'.cell? ⟨b12, 7, none⟩ = some (.int .i64 me.y) ∧ w'.cell? ⟨b12, 8, none⟩ = some (.int .i64 mpg) ∧ w'.cell? ⟨b11, 0, none⟩ = some (.int .i64 ec.id) ∧ w'.cell? ⟨b11, 1, none⟩ = some (.int .i64 ec.page)) (by kernel_rfl) (by kernel_rfl) ?_ (fun hHeld => ?_)
          · (first | exact HS0.out | exact HKS.out _ (Chg.refl _ _) | exact zc)
          simp only [List.take_succ_cons, List.take_zero]
          have HKS : Hid (∀ W, Chg (fun _ => False) w14.drew W → W.cell? ⟨b7, 0, none⟩ = some (.slice (some ⟨gh, oh, none⟩) h2.list.length ch) ∧ W.cell? ⟨b7, 1, none⟩ = some (.int .i64 (h2.at_ : Int)) ∧ W.cell? ⟨b12, 0, none⟩ = some (.int .i64 me.id) ∧ W.cell? ⟨b12, 1, none⟩ = some (.int .i64 me.page) ∧ W.cell? ⟨b12, 2, none⟩ = some (.string url) ∧ W.cell? ⟨b12, 3, none⟩ = some (.string me.title) ∧ W.cell? ⟨b12, 4, none⟩ = some (.slice mn mnn mnc) ∧ W.cell? ⟨b12, 5, none⟩ = some (.slice mp mpn mpc) ∧ W.cell? ⟨b12, 6, none⟩ = some (.int .i64 me.x) ∧ W.cell? ⟨b12, 7, none⟩ = some (.int .i64 me.y) ∧ W.cell? ⟨b12, 8, none⟩ = some (.int .i64 mpg) ∧ W.cell? ⟨b11, 0, none⟩ = some (.int .i64 ec.id) ∧ W.cell? ⟨b11, 1, none⟩ = some (.int .i64 ec.page)) := Lib.hid (fun W hc => ⟨hc.cell HS0.out.1, hc.cell HS0.out.2.1, hc.cell HS0.out.2.2.1, hc.cell HS0.out.2.2.2.1, hc.cell HS0.out.2.2.2.2.1, hc.cell HS0.out.2.2.2.2.2.1, hc.cell HS0.out.2.2.2.2.2.2.1, hc.cell HS0.out.2.2.2.2.2.2.2.1, hc.cell HS0.out.2.2.2.2.2.2.2.2.1, hc.cell HS0.out.2.2.2.2.2.2.2.2.2.1, hc.cell HS0.out.2.2.2.2.2.2.2.2.2.2.1, hc.cell HS0.out.2.2.2.2.2.2.2.2.2.2.2.1, hc.cell HS0.out.2.2.2.2.2.2.2.2.2.2.2.2⟩)
          have HWD : Hid (Chg (fun _ => False) w14 w14.drew) := Lib.hid (Chg.refl _ w14).drewR
          generalize w14.drew = wD at *
          refine wpAnyH_take (i := 0) (v := ?_) rfl (by kernel_rfl) (by kernel_rfl) (by kernel_rfl) (fun _ _ _ h => h) (Or.inl ⟨by rfl, ?_⟩) (by assumption) ?_
          rotate_left
          · (intro wq hSw; (try dsimp only at hSw); go_simp; (try with_reducible rfl))
          simp only [Act.put, List.getElem_toArray, List.getElem_cons_zero, List.getElem_cons_succ, List.setIfInBounds_toArray, List.set_cons_zero, List.set_cons_succ]
          refine wpAnyH_take (i := 1) (v := ?_) rfl (by kernel_rfl) (by kernel_rfl) (by kernel_rfl) (fun _ _ _ h => h) (Or.inl ⟨by rfl, ?_⟩) (by assumption) ?_
          rotate_left
          · (intro wq hSw; (try dsimp only at hSw); go_simp; (try with_reducible rfl))
          simp only [Act.put, List.getElem_toArray, List.getElem_cons_zero, List.getElem_cons_succ, List.setIfInBounds_toArray, List.set_cons_zero, List.set_cons_succ]
          refine wpAnyH_take (i := 2) (v := ?_) rfl (by kernel_rfl) (by kernel_rfl) (by kernel_rfl) (fun _ _ _ h => h) (Or.inl ⟨by rfl, ?_⟩) (by assumption) ?_
          rotate_left
          · (intro wq hSw; (try dsimp only at hSw); go_simp; (try with_reducible rfl))
          simp only [Act.put, List.getElem_toArray, List.getElem_cons_zero, List.getElem_cons_succ, List.setIfInBounds_toArray, List.set_cons_zero, List.set_cons_succ]
          refine wpAnyH_take (i := 3) (v := ?_) rfl (by kernel_rfl) (by kernel_rfl) (by kernel_rfl) (fun _ _ _ h => h) (Or.inl ⟨by rfl, ?_⟩) (by assumption) ?_
          rotate_left
          · (intro wq hSw; (try dsimp only at hSw); go_simp; (try with_reducible rfl))
          simp only [Act.put, List.getElem_toArray, List.getElem_cons_zero, List.getElem_cons_succ, List.setIfInBounds_toArray, List.set_cons_zero, List.set_cons_succ]
          refine wpAnyH_take (i := 4) (v := ?_) rfl (by kernel_rfl) (by kernel_rfl) (by kernel_rfl) (fun _ _ _ h => h) (Or.inl ⟨by rfl, ?_⟩) (by assumption) ?_
          rotate_left
          · (intro wq hSw; (try dsimp only at hSw); go_simp; (try with_reducible rfl))
          simp only [Act.put, List.getElem_toArray, List.getElem_cons_zero, List.getElem_cons_succ, List.setIfInBounds_toArray, List.set_cons_zero, List.set_cons_succ]
          refine wpAnyH_take (i := 5) (v := ?_) rfl (by kernel_rfl) (by kernel_rfl) (by kernel_rfl) (fun _ _ _ h => h) (Or.inl ⟨by rfl, ?_⟩) (by assumption) ?_
          rotate_left
          · (intro wq hSw; (try dsimp only at hSw); go_simp; (try with_reducible rfl))
          simp only [Act.put, List.getElem_toArray, List.getElem_cons_zero, List.getElem_cons_succ, List.setIfInBounds_toArray, List.set_cons_zero, List.set_cons_succ]
          refine wpAnyH_take (i := 6) (v := ?_) rfl (by kernel_rfl) (by kernel_rfl) (by kernel_rfl) (fun _ _ _ h => h) (Or.inl ⟨by rfl, ?_⟩) (by assumption) ?_
          rotate_left
          · (intro wq hSw; (try dsimp only at hSw); go_simp; (try with_reducible rfl))
          simp only [Act.put, List.getElem_toArray, List.getElem_cons_zero, List.getElem_cons_succ, List.setIfInBounds_toArray, List.set_cons_zero, List.set_cons_succ]
          refine wpAnyH_take (i := 7) (v := ?_) rfl (by kernel_rfl) (by kernel_rfl) (by kernel_rfl) (fun _ _ _ h => h) (Or.inl ⟨by rfl, ?_⟩) (by assumption) ?_
          rotate_left
          · (intro wq hSw; (try dsimp only at hSw); go_simp; (try with_reducible rfl))
          simp only [Act.put, List.getElem_toArray, List.getElem_cons_zero, List.getElem_cons_succ, List.setIfInBounds_toArray, List.set_cons_zero, List.set_cons_succ]
          refine wpAnyH_take (i := 8) (v := ?_) rfl (by kernel_rfl) (by kernel_rfl) (by kernel_rfl) (fun _ _ _ h => h) (Or.inl ⟨by rfl, ?_⟩) (by assumption) ?_
          rotate_left
          · (intro wq hSw; (try dsimp only at hSw); go_simp; (try with_reducible rfl))
          simp only [Act.put, List.getElem_toArray, List.getElem_cons_zero, List.getElem_cons_succ, List.setIfInBounds_toArray, List.set_cons_zero, List.set_cons_succ]
          refine wpAnyH_take (i := 9) (v := ?_) rfl (by kernel_rfl) (by kernel_rfl) (by kernel_rfl) (fun _ _ _ h => h) (Or.inl ⟨by rfl, ?_⟩) (by assumption) ?_
          rotate_left
          · (intro wq hSw; (try dsimp only at hSw); go_simp; (try with_reducible rfl))
          simp only [Act.put, List.getElem_toArray, List.getElem_cons_zero, List.getElem_cons_succ, List.setIfInBounds_toArray, List.set_cons_zero, List.set_cons_succ]
          first
          | (refine wpAnyH_take (i := 10) (v := undef) rfl (by kernel_rfl) (by kernel_rfl) (by kernel_rfl) (fun _ _ _ h => h) (Or.inr ⟨by rfl, rfl⟩) (by assumption) ?_)
          | (refine wpAnyH_take (i := 10) (v := ?_) rfl (by kernel_rfl) (by kernel_rfl) (by kernel_rfl) (fun _ _ _ h => h) (Or.inl ⟨by rfl, ?_⟩) (by assumption) ?_; rotate_left; (focus (intro wq hSw; (try dsimp only at hSw); go_simp; (try with_reducible rfl))))
          simp only [Act.put, List.getElem_toArray, List.getElem_cons_zero, List.getElem_cons_succ, List.setIfInBounds_toArray, List.set_cons_zero, List.set_cons_succ]
          first
          | (refine wpAnyH_take (i := 11) (v := undef) rfl (by kernel_rfl) (by kernel_rfl) (by kernel_rfl) (fun _ _ _ h => h) (Or.inr ⟨by rfl, rfl⟩) (by assumption) ?_)
          | (refine wpAnyH_take (i := 11) (v := ?_) rfl (by kernel_rfl) (by kernel_rfl) (by kernel_rfl) (fun _ _ _ h => h) (Or.inl ⟨by rfl, ?_⟩) (by assumption) ?_; rotate_left; (focus (intro wq hSw; (try dsimp only at hSw); go_simp; (try with_reducible rfl))))
          simp only [Act.put, List.getElem_toArray, List.getElem_cons_zero, List.getElem_cons_succ, List.setIfInBounds_toArray, List.set_cons_zero, List.set_cons_succ]
          first
          | (refine wpAnyH_take (i := 12) (v := undef) rfl (by kernel_rfl) (by kernel_rfl) (by kernel_rfl) (fun _ _ _ h => h) (Or.inr ⟨by rfl, rfl⟩) (by assumption) ?_)
          | (refine wpAnyH_take (i := 12) (v := ?_) rfl (by kernel_rfl) (by kernel_rfl) (by kernel_rfl) (fun _ _ _ h => h) (Or.inl ⟨by rfl, ?_⟩) (by assumption) ?_; rotate_left; (focus (intro wq hSw; (try dsimp only at hSw); go_simp; (try with_reducible rfl))))
          simp only [Act.put, List.getElem_toArray, List.getElem_cons_zero, List.getElem_cons_succ, List.setIfInBounds_toArray, List.set_cons_zero, List.set_cons_succ]
          first
          | (refine wpAnyH_take (i := 13) (v := undef) rfl (by kernel_rfl) (by kernel_rfl) (by kernel_rfl) (fun _ _ _ h => h) (Or.inr ⟨by rfl, rfl⟩) (by assumption) ?_)
          | (refine wpAnyH_take (i := 13) (v := ?_) rfl (by kernel_rfl) (by kernel_rfl) (by kernel_rfl) (fun _ _ _ h => h) (Or.inl ⟨by rfl, ?_⟩) (by assumption) ?_; rotate_left; (focus (intro wq hSw; (try dsimp only at hSw); go_simp; (try with_reducible rfl))))
          simp only [Act.put, List.getElem_toArray, List.getElem_cons_zero, List.getElem_cons_succ, List.setIfInBounds_toArray, List.set_cons_zero, List.set_cons_succ]
          first
          | (refine wpAnyH_take (i := 14) (v := undef) rfl (by kernel_rfl) (by kernel_rfl) (by kernel_rfl) (fun _ _ _ h => h) (Or.inr ⟨by rfl, rfl⟩) (by assumption) ?_)
          | (refine wpAnyH_take (i := 14) (v := ?_) rfl (by kernel_rfl) (by kernel_rfl) (by kernel_rfl) (fun _ _ _ h => h) (Or.inl ⟨by rfl, ?_⟩) (by assumption) ?_; rotate_left; (focus (intro wq hSw; (try dsimp only at hSw); go_simp; (try with_reducible rfl))))
          simp only [Act.put, List.getElem_toArray, List.getElem_cons_zero, List.getElem_cons_succ, List.setIfInBounds_toArray, List.set_cons_zero, List.set_cons_succ]
          first
          | (refine wpAnyH_take (i := 15) (v := undef) rfl (by kernel_rfl) (by kernel_rfl) (by kernel_rfl) (fun _ _ _ h => h) (Or.inr ⟨by rfl, rfl⟩) (by assumption) ?_)
          | (refine wpAnyH_take (i := 15) (v := ?_) rfl (by kernel_rfl) (by kernel_rfl) (by kernel_rfl) (fun _ _ _ h => h) (Or.inl ⟨by rfl, ?_⟩) (by assumption) ?_; rotate_left; (focus (intro wq hSw; (try dsimp only at hSw); go_simp; (try with_reducible rfl))))
          simp only [Act.put, List.getElem_toArray, List.getElem_cons_zero, List.getElem_cons_succ, List.setIfInBounds_toArray, List.set_cons_zero, List.set_cons_succ]
          first
          | (refine wpAnyH_take (i := 16) (v := undef) rfl (by kernel_rfl) (by kernel_rfl) (by kernel_rfl) (fun _ _ _ h => h) (Or.inr ⟨by rfl, rfl⟩) (by assumption) ?_)
          | (refine wpAnyH_take (i := 16) (v := ?_) rfl (by kernel_rfl) (by kernel_rfl) (by kernel_rfl) (fun _ _ _ h => h) (Or.inl ⟨by rfl, ?_⟩) (by assumption) ?_; rotate_left; (focus (intro wq hSw; (try dsimp only at hSw); go_simp; (try with_reducible rfl))))
          simp only [Act.put, List.getElem_toArray, List.getElem_cons_zero, List.getElem_cons_succ, List.setIfInBounds_toArray, List.set_cons_zero, List.set_cons_succ]
          refine wpAnyH_take (i := 17) (v := ?_) rfl (by kernel_rfl) (by kernel_rfl) (by kernel_rfl) (fun _ _ _ h => h) (Or.inl ⟨by rfl, ?_⟩) (by assumption) ?_
          rotate_left
          · (intro wq hSw; (try dsimp only at hSw); go_simp; (try with_reducible rfl))
          simp only [Act.put, List.getElem_toArray, List.getElem_cons_zero, List.getElem_cons_succ, List.setIfInBounds_toArray, List.set_cons_zero, List.set_cons_succ]
          refine wpAnyH_take (i := 18) (v := ?_) rfl (by kernel_rfl) (by kernel_rfl) (by kernel_rfl) (fun _ _ _ h => h) (Or.inl ⟨by rfl, ?_⟩) (by assumption) ?_
          rotate_left
          · (intro wq hSw; (try dsimp only at hSw); go_simp; (try with_reducible rfl))
          simp only [Act.put, List.getElem_toArray, List.getElem_cons_zero, List.getElem_cons_succ, List.setIfInBounds_toArray, List.set_cons_zero, List.set_cons_succ]
          first
          | (refine wpAnyH_take (i := 19) (v := undef) rfl (by kernel_rfl) (by kernel_rfl) (by kernel_rfl) (fun _ _ _ h => h) (Or.inr ⟨by rfl, rfl⟩) (by assumption) ?_)
          | (refine wpAnyH_take (i := 19) (v := ?_) rfl (by kernel_rfl) (by kernel_rfl) (by kernel_rfl) (fun _ _ _ h => h) (Or.inl ⟨by rfl, ?_⟩) (by assumption) ?_; rotate_left; (focus (intro wq hSw; (try dsimp only at hSw); go_simp; (try with_reducible rfl))))
          simp only [Act.put, List.getElem_toArray, List.getElem_cons_zero, List.getElem_cons_succ, List.setIfInBounds_toArray, List.set_cons_zero, List.set_cons_succ]
          first
          | (refine wpAnyH_take (i := 20) (v := undef) rfl (by kernel_rfl) (by kernel_rfl) (by kernel_rfl) (fun _ _ _ h => h) (Or.inr ⟨by rfl, rfl⟩) (by assumption) ?_)
          | (refine wpAnyH_take (i := 20) (v := ?_) rfl (by kernel_rfl) (by kernel_rfl) (by kernel_rfl) (fun _ _ _ h => h) (Or.inl ⟨by rfl, ?_⟩) (by assumption) ?_; rotate_left; (focus (intro wq hSw; (try dsimp only at hSw); go_simp; (try with_reducible rfl))))
          simp only [Act.put, List.getElem_toArray, List.getElem_cons_zero, List.getElem_cons_succ, List.setIfInBounds_toArray, List.set_cons_zero, List.set_cons_succ]
          first
          | (refine wpAnyH_take (i := 21) (v := undef) rfl (by kernel_rfl) (by kernel_rfl) (by kernel_rfl) (fun _ _ _ h => h) (Or.inr ⟨by rfl, rfl⟩) (by assumption) ?_)
          | (refine wpAnyH_take (i := 21) (v := ?_) rfl (by kernel_rfl) (by kernel_rfl) (by kernel_rfl) (fun _ _ _ h => h) (Or.inl ⟨by rfl, ?_⟩) (by assumption) ?_; rotate_left; (focus (intro wq hSw; (try dsimp only at hSw); go_simp; (try with_reducible rfl))))
          simp only [Act.put, List.getElem_toArray, List.getElem_cons_zero, List.getElem_cons_succ, List.setIfInBounds_toArray, List.set_cons_zero, List.set_cons_succ]
          first
          | (refine wpAnyH_take (i := 22) (v := undef) rfl (by kernel_rfl) (by kernel_rfl) (by kernel_rfl) (fun _ _ _ h => h) (Or.inr ⟨by rfl, rfl⟩) (by assumption) ?_)
          | (refine wpAnyH_take (i := 22) (v := ?_) rfl (by kernel_rfl) (by kernel_rfl) (by kernel_rfl) (fun _ _ _ h => h) (Or.inl ⟨by rfl, ?_⟩) (by assumption) ?_; rotate_left; (focus (intro wq hSw; (try dsimp only at hSw); go_simp; (try with_reducible rfl))))
          simp only [Act.put, List.getElem_toArray, List.getElem_cons_zero, List.getElem_cons_succ, List.setIfInBounds_toArray, List.set_cons_zero, List.set_cons_succ]
          first
          | (refine wpAnyH_take (i := 23) (v := undef) rfl (by kernel_rfl) (by kernel_rfl) (by kernel_rfl) (fun _ _ _ h => h) (Or.inr ⟨by rfl, rfl⟩) (by assumption) ?_)
          | (refine wpAnyH_take (i := 23) (v := ?_) rfl (by kernel_rfl) (by kernel_rfl) (by kernel_rfl) (fun _ _ _ h => h) (Or.inl ⟨by rfl, ?_⟩) (by assumption) ?_; rotate_left; (focus (intro wq hSw; (try dsimp only at hSw); go_simp; (try with_reducible rfl))))
          simp only [Act.put, List.getElem_toArray, List.getElem_cons_zero, List.getElem_cons_succ, List.setIfInBounds_toArray, List.set_cons_zero, List.set_cons_succ]
          refine wpAnyH_take (i := 24) (v := ?_) rfl (by kernel_rfl) (by kernel_rfl) (by kernel_rfl) (fun _ _ _ h => h) (Or.inl ⟨by rfl, ?_⟩) (by assumption) ?_
          rotate_left
          · (intro wq hSw; (try dsimp only at hSw); go_simp; (try with_reducible rfl))
          simp only [Act.put, List.getElem_toArray, List.getElem_cons_zero, List.getElem_cons_succ, List.setIfInBounds_toArray, List.set_cons_zero, List.set_cons_succ]
          refine wpAnyH_take (i := 25) (v := ?_) rfl (by kernel_rfl) (by kernel_rfl) (by kernel_rfl) (fun _ _ _ h => h) (Or.inl ⟨by rfl, ?_⟩) (by assumption) ?_
          rotate_left
          · (intro wq hSw; (try dsimp only at hSw); go_simp; (try with_reducible rfl))
          simp only [Act.put, List.getElem_toArray, List.getElem_cons_zero, List.getElem_cons_succ, List.setIfInBounds_toArray, List.set_cons_zero, List.set_cons_succ]
          first
          | (refine wpAnyH_take (i := 27) (v := undef) rfl (by kernel_rfl) (by kernel_rfl) (by kernel_rfl) (fun _ _ _ h => h) (Or.inr ⟨by rfl, rfl⟩) (by assumption) ?_)
          | (refine wpAnyH_take (i := 27) (v := ?_) rfl (by kernel_rfl) (by kernel_rfl) (by kernel_rfl) (fun _ _ _ h => h) (Or.inl ⟨by rfl, ?_⟩) (by assumption) ?_; rotate_left; (focus (intro wq hSw; (try dsimp only at hSw); go_simp; (try with_reducible rfl))))
          simp only [Act.put, List.getElem_toArray, List.getElem_cons_zero, List.getElem_cons_succ, List.setIfInBounds_toArray, List.set_cons_zero, List.set_cons_succ]
          first
          | (refine wpAnyH_take (i := 28) (v := undef) rfl (by kernel_rfl) (by kernel_rfl) (by kernel_rfl) (fun _ _ _ h => h) (Or.inr ⟨by rfl, rfl⟩) (by assumption) ?_)
          | (refine wpAnyH_take (i := 28) (v := ?_) rfl (by kernel_rfl) (by kernel_rfl) (by kernel_rfl) (fun _ _ _ h => h) (Or.inl ⟨by rfl, ?_⟩) (by assumption) ?_; rotate_left; (focus (intro wq hSw; (try dsimp only at hSw); go_simp; (try with_reducible rfl))))
          simp only [Act.put, List.getElem_toArray, List.getElem_cons_zero, List.getElem_cons_succ, List.setIfInBounds_toArray, List.set_cons_zero, List.set_cons_succ]
          refine wpAnyH_ready (rs := [26]) (by kernel_rfl) (by simp) ?_
          refine AllReadyH.cons (by simp only [List.getElem?_toArray, List.getElem?_cons_succ, List.getElem?_cons_zero]; rfl) (fun K hK => ?_) AllReadyH.nil
          (go_simp; go_at_call 19; refine (HCU2.out _ HWD.out).mono ?_; rintro _ wq ⟨qn, qp, rfl, hcq, hmq⟩; obtain ⟨⟨an, ann, anc, rfl⟩, ap, apn, apc, rfl⟩ := hmq.vals; unfold EntC; rw [HMU.out]; have HMQ := Lib.hid hmq; have HCQ := Lib.hid (HWD.out.trans' hcq); have HCQD := Lib.hid hcq; have zc := HKS.out _ hcq; clear hcq hmq; go_simp)
          refine hK.out _ _ ?_ (fun hHeld => ?_)
          · (first | exact HS0.out | exact HKS.out _ (Chg.refl _ _) | exact zc)
          clear hK K
          (try simp only [Act.put, List.getElem_toArray, List.getElem_cons_zero, List.getElem_cons_succ, List.setIfInBounds_toArray, List.set_cons_zero, List.set_cons_succ])
          refine wpAnyH_ready (rs := [29]) (by kernel_rfl) (by simp) ?_
          refine AllReadyH.cons (by simp only [List.getElem?_toArray, List.getElem?_cons_succ, List.getElem?_cons_zero]; rfl) (fun K hK => ?_) AllReadyH.nil
          (go_simp; go_at_call 18; refine (sameEntry_any _ me.id me.page me.x me.y url me.title an ap mn mp ann anc apn apc mnn mnc mpn mpc me.msg HMQ.out (HMM.out _ HCQ.out) HEM.out).mono ?_; rintro _ wf ⟨rfl, hcf⟩; have HCF := Lib.hid (HCQ.out.trans' hcf); have zc := HKS.out _ (HCQD.out.trans' hcf); clear hcf; go_simp)
          refine hK.out _ _ ?_ (fun hHeld => ?_)
          · (first | exact HS0.out | exact HKS.out _ (Chg.refl _ _) | exact zc)
          clear hK K
          (try simp only [Act.put, List.getElem_toArray, List.getElem_cons_zero, List.getElem_cons_succ, List.setIfInBounds_toArray, List.set_cons_zero, List.set_cons_succ])
          first
          | (refine wpAnyH_take (i := 30) (v := undef) rfl (by kernel_rfl) (by kernel_rfl) (by kernel_rfl) (fun _ _ _ h => h) (Or.inr ⟨by rfl, rfl⟩) (by assumption) ?_)
          | (refine wpAnyH_take (i := 30) (v := ?_) rfl (by kernel_rfl) (by kernel_rfl) (by kernel_rfl) (fun _ _ _ h => h) (Or.inl ⟨by rfl, ?_⟩) (by assumption) ?_; rotate_left; (focus (intro wq hSw; (try dsimp only at hSw); go_simp; (try with_reducible rfl))))
          simp only [Act.put, List.getElem_toArray, List.getElem_cons_zero, List.getElem_cons_succ, List.setIfInBounds_toArray, List.set_cons_zero, List.set_cons_succ]
          refine wpAnyH_take (i := 31) (v := ?_) rfl (by kernel_rfl) (by kernel_rfl) (by kernel_rfl) (fun _ _ _ h => h) (Or.inl ⟨by rfl, ?_⟩) (by assumption) ?_
          rotate_left
          · (intro wq hSw; (try dsimp only at hSw); go_simp; (try with_reducible rfl))
          simp only [Act.put, List.getElem_toArray, List.getElem_cons_zero, List.getElem_cons_succ, List.setIfInBounds_toArray, List.set_cons_zero, List.set_cons_succ]
          refine wpAnyH_take (i := 32) (v := ?_) rfl (by kernel_rfl) (by kernel_rfl) (by kernel_rfl) (fun _ _ _ h => h) (Or.inl ⟨by rfl, ?_⟩) (by assumption) ?_
          rotate_left
          · (intro wq hSw; (try dsimp only at hSw); go_simp; (try with_reducible rfl))
          simp only [Act.put, List.getElem_toArray, List.getElem_cons_zero, List.getElem_cons_succ, List.setIfInBounds_toArray, List.set_cons_zero, List.set_cons_succ]
          first
          | (refine wpAnyH_take (i := 33) (v := undef) rfl (by kernel_rfl) (by kernel_rfl) (by kernel_rfl) (fun _ _ _ h => h) (Or.inr ⟨by rfl, rfl⟩) (by assumption) ?_)
          | (refine wpAnyH_take (i := 33) (v := ?_) rfl (by kernel_rfl) (by kernel_rfl) (by kernel_rfl) (fun _ _ _ h => h) (Or.inl ⟨by rfl, ?_⟩) (by assumption) ?_; rotate_left; (focus (intro wq hSw; (try dsimp only at hSw); go_simp; (try with_reducible rfl))))
          simp only [Act.put, List.getElem_toArray, List.getElem_cons_zero, List.getElem_cons_succ, List.setIfInBounds_toArray, List.set_cons_zero, List.set_cons_succ]
          first
          | (refine wpAnyH_take (i := 34) (v := undef) rfl (by kernel_rfl) (by kernel_rfl) (by kernel_rfl) (fun _ _ _ h => h) (Or.inr ⟨by rfl, rfl⟩) (by assumption) ?_)
          | (refine wpAnyH_take (i := 34) (v := ?_) rfl (by kernel_rfl) (by kernel_rfl) (by kernel_rfl) (fun _ _ _ h => h) (Or.inl ⟨by rfl, ?_⟩) (by assumption) ?_; rotate_left; (focus (intro wq hSw; (try dsimp only at hSw); go_simp; (try with_reducible rfl))))
          simp only [Act.put, List.getElem_toArray, List.getElem_cons_zero, List.getElem_cons_succ, List.setIfInBounds_toArray, List.set_cons_zero, List.set_cons_succ]
          first
          | (refine wpAnyH_take (i := 35) (v := undef) rfl (by kernel_rfl) (by kernel_rfl) (by kernel_rfl) (fun _ _ _ h => h) (Or.inr ⟨by rfl, rfl⟩) (by assumption) ?_)
          | (refine wpAnyH_take (i := 35) (v := ?_) rfl (by kernel_rfl) (by kernel_rfl) (by kernel_rfl) (fun _ _ _ h => h) (Or.inl ⟨by rfl, ?_⟩) (by assumption) ?_; rotate_left; (focus (intro wq hSw; (try dsimp only at hSw); go_simp; (try with_reducible rfl))))
          simp only [Act.put, List.getElem_toArray, List.getElem_cons_zero, List.getElem_cons_succ, List.setIfInBounds_toArray, List.set_cons_zero, List.set_cons_succ]
          first
          | (refine wpAnyH_take (i := 36) (v := undef) rfl (by kernel_rfl) (by kernel_rfl) (by kernel_rfl) (fun _ _ _ h => h) (Or.inr ⟨by rfl, rfl⟩) (by assumption) ?_)
          | (refine wpAnyH_take (i := 36) (v := ?_) rfl (by kernel_rfl) (by kernel_rfl) (by kernel_rfl) (fun _ _ _ h => h) (Or.inl ⟨by rfl, ?_⟩) (by assumption) ?_; rotate_left; (focus (intro wq hSw; (try dsimp only at hSw); go_simp; (try with_reducible rfl))))
          simp only [Act.put, List.getElem_toArray, List.getElem_cons_zero, List.getElem_cons_succ, List.setIfInBounds_toArray, List.set_cons_zero, List.set_cons_succ]
          first
          | (refine wpAnyH_take (i := 37) (v := undef) rfl (by kernel_rfl) (by kernel_rfl) (by kernel_rfl) (fun _ _ _ h => h) (Or.inr ⟨by rfl, rfl⟩) (by assumption) ?_)
          | (refine wpAnyH_take (i := 37) (v := ?_) rfl (by kernel_rfl) (by kernel_rfl) (by kernel_rfl) (fun _ _ _ h => h) (Or.inl ⟨by rfl, ?_⟩) (by assumption) ?_; rotate_left; (focus (intro wq hSw; (try dsimp only at hSw); go_simp; (try with_reducible rfl))))
          simp only [Act.put, List.getElem_toArray, List.getElem_cons_zero, List.getElem_cons_succ, List.setIfInBounds_toArray, List.set_cons_zero, List.set_cons_succ]
          first
          | (refine wpAnyH_take (i := 38) (v := undef) rfl (by kernel_rfl) (by kernel_rfl) (by kernel_rfl) (fun _ _ _ h => h) (Or.inr ⟨by rfl, rfl⟩) (by assumption) ?_)
          | (refine wpAnyH_take (i := 38) (v := ?_) rfl (by kernel_rfl) (by kernel_rfl) (by kernel_rfl) (fun _ _ _ h => h) (Or.inl ⟨by rfl, ?_⟩) (by assumption) ?_; rotate_left; (focus (intro wq hSw; (try dsimp only at hSw); go_simp; (try with_reducible rfl))))
          simp only [Act.put, List.getElem_toArray, List.getElem_cons_zero, List.getElem_cons_succ, List.setIfInBounds_toArray, List.set_cons_zero, List.set_cons_succ]
          first
          | (refine wpAnyH_take (i := 39) (v := undef) rfl (by kernel_rfl) (by kernel_rfl) (by kernel_rfl) (fun _ _ _ h => h) (Or.inr ⟨by rfl, rfl⟩) (by assumption) ?_)
          | (refine wpAnyH_take (i := 39) (v := ?_) rfl (by kernel_rfl) (by kernel_rfl) (by kernel_rfl) (fun _ _ _ h => h) (Or.inl ⟨by rfl, ?_⟩) (by assumption) ?_; rotate_left; (focus (intro wq hSw; (try dsimp only at hSw); go_simp; (try with_reducible rfl))))
          simp only [Act.put, List.getElem_toArray, List.getElem_cons_zero, List.getElem_cons_succ, List.setIfInBounds_toArray, List.set_cons_zero, List.set_cons_succ]
          refine wpAnyH_take (i := 40) (v := ?_) rfl (by kernel_rfl) (by kernel_rfl) (by kernel_rfl) (fun _ _ _ h => h) (Or.inl ⟨by rfl, ?_⟩) (by assumption) ?_
          rotate_left
          · (intro wq hSw; (try dsimp only at hSw); go_simp; (try with_reducible rfl))
          simp only [Act.put, List.getElem_toArray, List.getElem_cons_zero, List.getElem_cons_succ, List.setIfInBounds_toArray, List.set_cons_zero, List.set_cons_succ]
          refine wpAnyH_take (i := 41) (v := ?_) rfl (by kernel_rfl) (by kernel_rfl) (by kernel_rfl) (fun _ _ _ h => h) (Or.inl ⟨by rfl, ?_⟩) (by assumption) ?_
          rotate_left
          · (intro wq hSw; (try dsimp only at hSw); go_simp; (try with_reducible rfl))
          simp only [Act.put, List.getElem_toArray, List.getElem_cons_zero, List.getElem_cons_succ, List.setIfInBounds_toArray, List.set_cons_zero, List.set_cons_succ]
          first
          | (refine wpAnyH_take (i := 42) (v := undef) rfl (by kernel_rfl) (by kernel_rfl) (by kernel_rfl) (fun _ _ _ h => h) (Or.inr ⟨by rfl, rfl⟩) (by assumption) ?_)
          | (refine wpAnyH_take (i := 42) (v := ?_) rfl (by kernel_rfl) (by kernel_rfl) (by kernel_rfl) (fun _ _ _ h => h) (Or.inl ⟨by rfl, ?_⟩) (by assumption) ?_; rotate_left; (focus (intro wq hSw; (try dsimp only at hSw); go_simp; (try with_reducible rfl))))
          simp only [Act.put, List.getElem_toArray, List.getElem_cons_zero, List.getElem_cons_succ, List.setIfInBounds_toArray, List.set_cons_zero, List.set_cons_succ]
          first
          | (refine wpAnyH_take (i := 43) (v := undef) rfl (by kernel_rfl) (by kernel_rfl) (by kernel_rfl) (fun _ _ _ h => h) (Or.inr ⟨by rfl, rfl⟩) (by assumption) ?_)
          | (refine wpAnyH_take (i := 43) (v := ?_) rfl (by kernel_rfl) (by kernel_rfl) (by kernel_rfl) (fun _ _ _ h => h) (Or.inl ⟨by rfl, ?_⟩) (by assumption) ?_; rotate_left; (focus (intro wq hSw; (try dsimp only at hSw); go_simp; (try with_reducible rfl))))
          simp only [Act.put, List.getElem_toArray, List.getElem_cons_zero, List.getElem_cons_succ, List.setIfInBounds_toArray, List.set_cons_zero, List.set_cons_succ]
          first
          | (refine wpAnyH_take (i := 44) (v := undef) rfl (by kernel_rfl) (by kernel_rfl) (by kernel_rfl) (fun _ _ _ h => h) (Or.inr ⟨by rfl, rfl⟩) (by assumption) ?_)
          | (refine wpAnyH_take (i := 44) (v := ?_) rfl (by kernel_rfl) (by kernel_rfl) (by kernel_rfl) (fun _ _ _ h => h) (Or.inl ⟨by rfl, ?_⟩) (by assumption) ?_; rotate_left; (focus (intro wq hSw; (try dsimp only at hSw); go_simp; (try with_reducible rfl))))
          simp only [Act.put, List.getElem_toArray, List.getElem_cons_zero, List.getElem_cons_succ, List.setIfInBounds_toArray, List.set_cons_zero, List.set_cons_succ]
          first
          | (refine wpAnyH_take (i := 45) (v := undef) rfl (by kernel_rfl) (by kernel_rfl) (by kernel_rfl) (fun _ _ _ h => h) (Or.inr ⟨by rfl, rfl⟩) (by assumption) ?_)
          | (refine wpAnyH_take (i := 45) (v := ?_) rfl (by kernel_rfl) (by kernel_rfl) (by kernel_rfl) (fun _ _ _ h => h) (Or.inl ⟨by rfl, ?_⟩) (by assumption) ?_; rotate_left; (focus (intro wq hSw; (try dsimp only at hSw); go_simp; (try with_reducible rfl))))
          simp only [Act.put, List.getElem_toArray, List.getElem_cons_zero, List.getElem_cons_succ, List.setIfInBounds_toArray, List.set_cons_zero, List.set_cons_succ]
          first
          | (refine wpAnyH_take (i := 46) (v := undef) rfl (by kernel_rfl) (by kernel_rfl) (by kernel_rfl) (fun _ _ _ h => h) (Or.inr ⟨by rfl, rfl⟩) (by assumption) ?_)
          | (refine wpAnyH_take (i := 46) (v := ?_) rfl (by kernel_rfl) (by kernel_rfl) (by kernel_rfl) (fun _ _ _ h => h) (Or.inl ⟨by rfl, ?_⟩) (by assumption) ?_; rotate_left; (focus (intro wq hSw; (try dsimp only at hSw); go_simp; (try with_reducible rfl))))
          simp only [Act.put, List.getElem_toArray, List.getElem_cons_zero, List.getElem_cons_succ, List.setIfInBounds_toArray, List.set_cons_zero, List.set_cons_succ]
          first
          | (refine wpAnyH_take (i := 47) (v := undef) rfl (by kernel_rfl) (by kernel_rfl) (by kernel_rfl) (fun _ _ _ h => h) (Or.inr ⟨by rfl, rfl⟩) (by assumption) ?_)
          | (refine wpAnyH_take (i := 47) (v := ?_) rfl (by kernel_rfl) (by kernel_rfl) (by kernel_rfl) (fun _ _ _ h => h) (Or.inl ⟨by rfl, ?_⟩) (by assumption) ?_; rotate_left; (focus (intro wq hSw; (try dsimp only at hSw); go_simp; (try with_reducible rfl))))
          simp only [Act.put, List.getElem_toArray, List.getElem_cons_zero, List.getElem_cons_succ, List.setIfInBounds_toArray, List.set_cons_zero, List.set_cons_succ]
          refine wpAnyH_done (by kernel_rfl) ?_ _
          change wpList _ _ _ _ _ _
          simp only [List.drop_succ_cons, List.drop_zero]
          go_upto_region 20 with fail
          obtain ⟨s0, s1⟩ := zz.out _ HCF.out
          clear zc wb1 wb2 wb3 wb4 wc1 wc2 wc3 wc4 mx z1 z2 zu z5 z6
          have k1 : h2.at_ ≤ ch := HCC.out
          have k2 : (h2.at_ : Int) ≤ (ch : Int) := by omega
          have k3 : ¬ (ch : Int) < (h2.at_ : Int) := by omega
          have k4 : (0 : Int) ≤ (h2.at_ : Int) := by omega
          go_upto_block 2 with fail
          clear k1 k2 k3 k4
          clear s0 s1
          have HCFW := Lib.hid HCF.out
          clear HCF HCQ HCQD HMQ HWD HKS HS0 HCU2 HMM
          go_wp2_with fail
          go_loopw [6, 14, 15, 109] (fun _ _ _ i wr => ∃ k : Nat, k ≤ h2.at_ ∧ i = .int .i64 k ∧ Hid (Chg (fun _ => False) w14 wr)) (fun _ _ _ i _ => h2.at_ - (intOf i).toNat)
          case atStart => exact ⟨0, Nat.zero_le _, rfl, HCFW⟩
          case round =>
            clear HCFW
            obtain ⟨k, hk, rfl, HCR⟩ := hrel
            by_cases hlt : k < h2.at_
            · have k0 : (0 : Int) ≤ (k : Int) := by omega
              have k1 : (k : Int) < (h2.at_ : Int) := by omega
              have hat2 : h2.at_ ≤ 50 := by have := HL2.out; omega
              have w64 : IntKind.i64.wrap ((k : Int) + 1) = ((k + 1 : Nat) : Int) := IntWalk.i64_in _ (by omega)
              have wkc : IntKind.i64.wrap ((k : Int) + (ct : Int)) = ((k + ct : Nat) : Int) := IntWalk.i64_in _ (by have := HCT.out; omega)
              have hg := HNO.out.get k hlt
              rw [HCT.out.2] at hg
              have hk2 : k < h2.list.length := by have := HNO.out.at_; omega
              have hkb : k + ct < (h.list.take (h.at_ + 1)).length := by rw [List.length_take]; have := HLEN.out; omega
              have hkh : k + ct < h.list.length := by rw [List.length_take] at hkb; omega
              obtain ⟨gx, ox, xn, xp, xnn, xnc, xpn, xpc, hgx, hm1, x0, x1, x2, x3, x4, x5, x6, x7⟩ := (HV2.out.still HCR.out).at hk2
              obtain ⟨gb, ob, yn, yp, ynn, ync, ypn, ypc, hgb, hm2, y0, y1, y2, y3, y4, y5, y6, y7⟩ := (HBE.out.still HCR.out).at (h := ⟨h.list.take (h.at_ + 1), 0, 0, 0, []⟩) hkb
              simp only [Option.some.injEq, Addr.mk.injEq, and_true] at hgx
              obtain ⟨rfl, rfl⟩ := hgx
              subst hgb
              have heq : h2.list[k] = h.list[k + ct] := by
                have := hg.1
                rw [List.getElem?_eq_getElem hk2, List.getElem?_eq_getElem hkh] at this
                simpa using this
              simp only [List.getElem_take] at hm2 y0 y1 y2 y3 y6 y7
              rw [← heq] at hm2 y0 y1 y2 y3 y6 y7
              have hok := HNO.out.enc _ (List.getElem_mem hk2)
              have HNX : Hid (k + 1 ≤ h2.at_) := Lib.hid hlt
              have j1 : ((k + ct : Nat) : Int) < (n1 : Int) := by have := hg.2; have := HN1.out; omega
              have j0 : (0 : Int) ≤ ((k + ct : Nat) : Int) := by omega
              have j2 : (k : Int) + (ct : Int) < (n1 : Int) := by have := hg.2; have := HN1.out; omega
              generalize h2.list[k] = e at *
              have HSE := Lib.hid (fun W (hc : Chg (fun _ => False) wr W) => sameEntry_any W e.id e.page e.x e.y e.url e.title xn xp yn yp xnn xnc xpn xpc ynn ync ypn ypc e.msg (hm1.chg hc (fun _ _ x => x.elim) (fun _ _ x => x)) (hm2.chg hc (fun _ _ x => x.elim) (fun _ _ x => x)) hok)
              clear hk hlt hm1 hm2 hok hg hk2 hkb hkh heq hat2
              go_upto_region 23 with fail
              have hca := Chg.alloc (fun _ => False) wr (.cells #[.int .i64 e.id, .int .i64 e.page, .string e.url, .string e.title, .slice xn xnn xnc, .slice xp xpn xpc, .int .i64 e.x, .int .i64 e.y] 34)
              have g15 := alloc_block wr (.cells #[.int .i64 e.id, .int .i64 e.page, .string e.url, .string e.title, .slice xn xnn xnc, .slice xp xpn xpc, .int .i64 e.x, .int .i64 e.y] 34)
              have HSE2 := Lib.hid (fun W (hc : Chg (fun _ => False) (wr.alloc (.cells #[.int .i64 e.id, .int .i64 e.page, .string e.url, .string e.title, .slice xn xnn xnc, .slice xp xpn xpc, .int .i64 e.x, .int .i64 e.y] 34)) W) => HSE.out W (hca.trans' hc))
              have HCA := Lib.hid (HCR.out.trans' hca)
              have y0 := hca.cell y0
              have y1 := hca.cell y1
              have y2 := hca.cell y2
              have y3 := hca.cell y3
              have y4 := hca.cell y4
              have y5 := hca.cell y5
              have y6 := hca.cell y6
              have y7 := hca.cell y7
              clear hca HSE x0 x1 x2 x3 x4 x5 x6 x7 HCR
              generalize wr.alloc (.cells #[.int .i64 e.id, .int .i64 e.page, .string e.url, .string e.title, .slice xn xnn xnc, .slice xp xpn xpc, .int .i64 e.x, .int .i64 e.y] 34) = wa at *
              generalize wr.heap.size = b15 at *
              have g0 := cell_of_block (i := 0) g15 rfl
              have g1 := cell_of_block (i := 1) g15 rfl
              have g2 := cell_of_block (i := 2) g15 rfl
              have g3 := cell_of_block (i := 3) g15 rfl
              have g4 := cell_of_block (i := 4) g15 rfl
              have g5 := cell_of_block (i := 5) g15 rfl
              have g6 := cell_of_block (i := 6) g15 rfl
              have g7 := cell_of_block (i := 7) g15 rfl
              simp only [List.getElem_toArray, List.getElem_cons_zero, List.getElem_cons_succ] at g0 g1 g2 g3 g4 g5 g6 g7
              have mg0 := Later.cell g0
              have mg1 := Later.cell g1
              have mg2 := Later.cell g2
              have mg3 := Later.cell g3
              have mg4 := Later.cell g4
              have mg5 := Later.cell g5
              have mg6 := Later.cell g6
              have mg7 := Later.cell g7
              have my0 := Later.cell y0
              have my1 := Later.cell y1
              have my2 := Later.cell y2
              have my3 := Later.cell y3
              have my4 := Later.cell y4
              have my5 := Later.cell y5
              have my6 := Later.cell y6
              have my7 := Later.cell y7
              clear g15 g0 y0 g1 y1 g2 y2 g3 y3 g4 y4 g5 y5 g6 y6 g7 y7
              refine wp_region_later (by kernel_rfl) (by kernel_rfl) ?_
              repeat (go_big_quiet_step ((go_at_call 18; exact Later.call (HSE2.out _ (Later.chg _)))))
              refine wpQuiet_nil ?_
              rintro _ ⟨y, rfl⟩
              have HCY := Lib.hid (HCA.out.trans' y.chg)
              generalize y.at_ = wy at *
              clear y mg0 my0 mg1 my1 mg2 my2 mg3 my3 mg4 my4 mg5 my5 mg6 my6 mg7 my7
              go_wp2_with fail
              go_roundw
              case rel => exact ⟨k + 1, HNX.out, rfl, HCY⟩
              case measure => have := HNX.out; simp [intOf, w64]; omega
            · have i1 : ¬ (k : Int) < (h2.at_ : Int) := by omega
              clear hk hlt
              go_wp2_with fail
              go_ret
              exact ⟨rfl, (HCH.out.trans' HCR.out).below (Nat.le_refl _) (fun k x => x.elim)⟩
        | false =>
          have HCL := Lib.hid (navigate_any _ w12 b7 h _ _ rs HH12.out url true (by have := HOK8.out.len; omega) (by have := HOK8.out.slp; omega) (by have := HOK8.out.next; omega) (by have := HOK8.out.page; omega))
          have hno := newOk_nav HOK8.out HPG.out HVA.out HEN.out url
          generalize navM h url true = h2 at *
          generalize navV h url true = M at *
          obtain ⟨me, mpg, maw, msl, mcl⟩ := M
          have hmu : me.url = url := hno.url
          have HNO := Lib.hid hno
          have HMU := Lib.hid hmu
          clear hno hmu
          go_upto_region 17 with (go_at_call 22; refine HCL.out.mono ?_; rintro _ w13 ⟨zv, rfl, vl13, vs13, rs13, h13, hc13, hm13, vn13, vp13, vc13, rfl, hms13, hrow13, -⟩; obtain ⟨⟨mn, mnn, mnc, rfl⟩, mp, mpn, mpc, rfl⟩ := hms13.vals; obtain ⟨m11, mc11, rfl, -, -⟩ := hrow13.slice; unfold MvC; rw [HMU.out]; have HH13 := Lib.hid h13; have HC13 := Lib.hid hc13; have HMS := Lib.hid hms13; have HMX := Lib.hid hm13; clear h13 hms13 hrow13 hm13; obtain ⟨z0, q0, z1, q1, z2, q2, z3, q3, z4, q4, z5, q5, z6, q6, z7, q7, z8, q8, z9, q9, z10, q10, z11, q11, hbf, hcs⟩ := store12 (hc13.keep HB12.out (fun x => by have := HMLT.out _ x; have := HSZ.out; have := HB12S.out; omega)) (.int .i64 me.id) (.int .i64 me.page) (.string url) (.string me.title) (.slice mn mnn mnc) (.slice mp mpn mpc) (.int .i64 me.x) (.int .i64 me.y) (.int .i64 mpg) (.bool maw) (.bool msl) (.slice m11 mcl.length mc11); have HBF := Lib.hid hbf; have HCS := Lib.hid hcs; clear hbf hcs hc13)
          clear z0 q0 z1 q1 z2 q2 z3 q3 z4 q4 z5 q5 z6 q6 z7 q7 z8 q8 z9 q9 z10 q10 z11 q11
          have HH14a := Lib.hid ((HH13.out.write HCS.out (fun k x => (HWX.out k).2 (.inr x)) (fun k x => by rw [HWE.out]; have h1 := HH0S.out; have h2 := HSZ.out; have h3 := HB12S.out; have : k = b12 := x; show w.heap.size ≤ k; omega)).shrink (w0 := ⟨w, fun _ => False⟩) HWE.out (fun k x => x.elim))
          have HBE := Lib.hid ((HBE2.out.chg HC13.out (fun k _ x => .inl x) (fun _ _ x => x)).chg (D' := fun _ => False) HCS.out (fun k _ x => .inr (by have := HB12S.out; have : k = b12 := x; omega)) (fun _ _ x => x.elim))
          have HB11Y := Lib.hid (HCS.out.keep (HC13.out.keep HB11B.out (fun x => by have := HMLT.out _ x; have := HSZ.out; have := HSZ2.out; omega)) (fun x => by have := HB12S.out; have : b11 = b12 := x; omega))
          have HMSX := Lib.hid ((HMS.out.chg (D' := fun k => k = b12) (Chg.refl (fun _ => False) w13) (fun _ _ x => x.elim) (fun k hk x => .inl (by have : k = b12 := x; subst this; exact HB12L.out))).chg (D' := fun _ => False) HCS.out (fun k _ x => x) (fun _ _ x => x.elim))
          clear HH13 HC13 HCS HMS HMX HB11B HBE2
          generalize ((((((((((((w13.setCell ⟨b12, 0, none⟩ (.int .i64 me.id)).setCell ⟨b12, 1, none⟩ (.int .i64 me.page)).setCell ⟨b12, 2, none⟩ (.string url)).setCell ⟨b12, 3, none⟩ (.string me.title)).setCell ⟨b12, 4, none⟩ (.slice mn mnn mnc)).setCell ⟨b12, 5, none⟩ (.slice mp mpn mpc)).setCell ⟨b12, 6, none⟩ (.int .i64 me.x)).setCell ⟨b12, 7, none⟩ (.int .i64 me.y)).setCell ⟨b12, 8, none⟩ (.int .i64 mpg)).setCell ⟨b12, 9, none⟩ (.bool maw)).setCell ⟨b12, 10, none⟩ (.bool msl)).setCell ⟨b12, 11, none⟩ (.slice m11 mcl.length mc11)) = w14 at *
          have hx := HH14a.out
          obtain ⟨gh, oh, ch, rfl, hcc, -⟩ := hx.row.addr (by rw [hx.len]; have := hx.ok; omega)
          have hrl := hx.len
          have HCC : Hid (h2.at_ ≤ ch) := Lib.hid (by have := hx.ok; omega)
          clear hcc
          have s0 := cell_of_block (i := 0) hx.box rfl
          have s1 := cell_of_block (i := 1) hx.box rfl
          simp only [List.getElem_toArray, List.getElem_cons_zero, List.getElem_cons_succ] at s0 s1
          rw [hrl] at s0
          have HCH := Lib.hid hx.chg
          obtain ⟨p2, q2, c2, d2, hvl, -, hv2⟩ := hx.hv
          have HV2 := Lib.hid (show HvAt (fun _ => False) w14 (some ⟨gh, oh, none⟩) q2 ch d2 h2 by
            simp only [Value.slice.injEq] at hvl
            obtain ⟨rfl, _, rfl⟩ := hvl
            exact hv2)
          have HCU2 := Lib.hid (fun W (hc : Chg (fun _ => False) w14 W) => current_any _ W b7 h2 _ _ _ (hx.still hc) me (by rw [show me = curE h2 from HNO.out.cur.symm]; exact curE_get _ hx.ok))
          have HMM := Lib.hid (fun W (hc : Chg (fun _ => False) w14 W) => HMSX.out.chg hc (fun _ _ x => x.elim) (fun _ _ x => x))
          have hme := HNO.out.enc _ (curE_mem h2 hx.ok)
          rw [HNO.out.cur] at hme
          have HEM := Lib.hid hme
          have hl2 := HNO.out.len
          have hl3 := HNO.out.at_
          have hlh := HLEN.out
          obtain ⟨ct, hct⟩ : ∃ c, c = h.at_ + 2 - 50 := ⟨_, rfl⟩
          have HCT : Hid (ct ≤ 1 ∧ h.at_ + 2 - 50 = ct) := Lib.hid ⟨by omega, hct.symm⟩
          have HL2 : Hid (h2.list.length ≤ 50 ∧ h2.at_ + 1 = h2.list.length) := Lib.hid ⟨by omega, hl3⟩
          rw [← hct] at hl2
          have hn1 := HN1.out
          have B1 : -9223372036854775808 ≤ (n1 : Int) + 1 ∧ (n1 : Int) + 1 ≤ 9223372036854775807 := by omega
          have B2 : -9223372036854775808 ≤ (n1 : Int) + 1 - 50 ∧ (n1 : Int) + 1 - 50 ≤ 9223372036854775807 := by omega
          have B3 : -9223372036854775808 ≤ (h2.list.length : Int) ∧ (h2.list.length : Int) ≤ 9223372036854775807 := by omega
          have B4 : -9223372036854775808 ≤ (h2.at_ : Int) ∧ (h2.at_ : Int) ≤ 9223372036854775807 := by omega
          have e3 : (n1 : Int) + 1 - (ct : Int) = (h2.list.length : Int) := by omega
          have e4 : (h2.list.length : Int) - 1 = (h2.at_ : Int) := by omega
          have mx : max ((n1 : Int) + 1 - 50) 0 = (ct : Int) := by omega
          have wb1 : IntKind.i64.wrap ((n1 : Int) + 1) = (n1 : Int) + 1 := IntWalk.i64_in _ B1
          have wb2 : IntKind.i64.wrap ((n1 : Int) + 1 - 50) = (n1 : Int) + 1 - 50 := IntWalk.i64_in _ B2
          have wb3 : IntKind.i64.wrap ((n1 : Int) + 1 - (ct : Int)) = (h2.list.length : Int) := by rw [e3]; exact IntWalk.i64_in _ B3
          have wb4 : IntKind.i64.wrap ((h2.list.length : Int) - 1) = (h2.at_ : Int) := by rw [e4]; exact IntWalk.i64_in _ B4
          have wc1 : wrap64 ((n1 : Int) + 1) = (n1 : Int) + 1 := IntWalk.wrap64_in _ B1
          have wc2 : wrap64 ((n1 : Int) + 1 - 50) = (n1 : Int) + 1 - 50 := IntWalk.wrap64_in _ B2
          have wc3 : wrap64 ((n1 : Int) + 1 - (ct : Int)) = (h2.list.length : Int) := by rw [e3]; exact IntWalk.wrap64_in _ B3
          have wc4 : wrap64 ((h2.list.length : Int) - 1) = (h2.at_ : Int) := by rw [e4]; exact IntWalk.wrap64_in _ B4
          clear hn1 B1 B2 B3 B4 e3 e4
          have z1 : ((h2.list.length : Int) != (h2.list.length : Int)) = false := by simp
          have z2 : ((h2.at_ : Int) != (h2.at_ : Int)) = false := by simp
          have zu : (url.toList == url.toList) = true := by simp
          have z5 : (mpg == ec.page) = false := by rw [HEC.out]; exact HNO.out.page
          have z6 : ¬ me.id ≤ ec.id := Int.not_le.2 (by have := HNO.out.id; rw [← HEC.out] at this; exact this)
          have zz : Hid (∀ W, Chg (fun _ => False) w14 W → W.cell? ⟨b7, 0, none⟩ = some (.slice (some ⟨gh, oh, none⟩) h2.list.length ch) ∧ W.cell? ⟨b7, 1, none⟩ = some (.int .i64 (h2.at_ : Int))) := Lib.hid (fun W hc => ⟨hc.cell s0, hc.cell s1⟩)
          have HS0 : Hid (w14.cell? ⟨b7, 0, none⟩ = some (.slice (some ⟨gh, oh, none⟩) h2.list.length ch) ∧ w14.cell? ⟨b7, 1, none⟩ = some (.int .i64 (h2.at_ : Int)) ∧ w14.cell? ⟨b12, 0, none⟩ = some (.int .i64 me.id) ∧ w14.cell? ⟨b12, 1, none⟩ = some (.int .i64 me.page) ∧ w14.cell? ⟨b12, 2, none⟩ = some (.string url) ∧ w14.cell? ⟨b12, 3, none⟩ = some (.string me.title) ∧ w14.cell? ⟨b12, 4, none⟩ = some (.slice mn mnn mnc) ∧ w14.cell? ⟨b12, 5, none⟩ = some (.slice mp mpn mpc) ∧ w14.cell? ⟨b12, 6, none⟩ = some (.int .i64 me.x) ∧ w14.cell? ⟨b12, 7, none⟩ = some (.int .i64 me.y) ∧ w14.cell? ⟨b12, 8, none⟩ = some (.int .i64 mpg) ∧ w14.cell? ⟨b11, 0, none⟩ = some (.int .i64 ec.id) ∧ w14.cell? ⟨b11, 1, none⟩ = some (.int .i64 ec.page)) := Lib.hid ⟨s0, s1, cell_of_block (i := 0) HBF.out rfl, cell_of_block (i := 1) HBF.out rfl, cell_of_block (i := 2) HBF.out rfl, cell_of_block (i := 3) HBF.out rfl, cell_of_block (i := 4) HBF.out rfl, cell_of_block (i := 5) HBF.out rfl, cell_of_block (i := 6) HBF.out rfl, cell_of_block (i := 7) HBF.out rfl, cell_of_block (i := 8) HBF.out rfl, cell_of_block (i := 0) HB11Y.out rfl, cell_of_block (i := 1) HB11Y.out rfl⟩
          clear hx hrl hvl hv2 hme hl2 hl3 hlh hct s0 s1 HBF HB11Y HH14a HMSX
          go_upto_region 18 with fail
          refine wp_region_held_split 48 (fun w' => w'.cell? ⟨b7, 0, none⟩ = some (.slice (some ⟨gh, oh, none⟩) h2.list.length ch) ∧ w'.cell? ⟨b7, 1, none⟩ = some (.int .i64 (h2.at_ : Int)) ∧ w'.cell? ⟨b12, 0, none⟩ = some (.int .i64 me.id) ∧ w'.cell? ⟨b12, 1, none⟩ = some (.int .i64 me.page) ∧ w'.cell? ⟨b12, 2, none⟩ = some (.string url) ∧ w'.cell? ⟨b12, 3, none⟩ = some (.string me.title) ∧ w'.cell? ⟨b12, 4, none⟩ = some (.slice mn mnn mnc) ∧ w'.cell? ⟨b12, 5, none⟩ = some (.slice mp mpn mpc) ∧ w'.cell? ⟨b12, 6, none⟩ = some (.int .i64 me.x) ∧ w'.cell? ⟨b12, 7, none⟩ = some (.int .i64 me.y) ∧ w'.cell? ⟨b12, 8, none⟩ = some (.int .i64 mpg) ∧ w'.cell? ⟨b11, 0, none⟩ = some (.int .i64 ec.id) ∧ w'.cell? ⟨b11, 1, none⟩ = some (.int .i64 ec.page)) (by kernel_rfl) (by kernel_rfl) ?_ (fun hHeld => ?_)
          · (first | exact HS0.out | exact HKS.out _ (Chg.refl _ _) | exact zc)
          simp only [List.take_succ_cons, List.take_zero]
          have HKS : Hid (∀ W, Chg (fun _ => False) w14.drew W → W.cell? ⟨b7, 0, none⟩ = some (.slice (some ⟨gh, oh, none⟩) h2.list.length ch) ∧ W.cell? ⟨b7, 1, none⟩ = some (.int .i64 (h2.at_ : Int)) ∧ W.cell? ⟨b12, 0, none⟩ = some (.int .i64 me.id) ∧ W.cell? ⟨b12, 1, none⟩ = some (.int .i64 me.page) ∧ W.cell? ⟨b12, 2, none⟩ = some (.string url) ∧ W.cell? ⟨b12, 3, none⟩ = some (.string me.title) ∧ W.cell? ⟨b12, 4, none⟩ = some (.slice mn mnn mnc) ∧ W.cell? ⟨b12, 5, none⟩ = some (.slice mp mpn mpc) ∧ W.cell? ⟨b12, 6, none⟩ = some (.int .i64 me.x) ∧ W.cell? ⟨b12, 7, none⟩ = some (.int .i64 me.y) ∧ W.cell? ⟨b12, 8, none⟩ = some (.int .i64 mpg) ∧ W.cell? ⟨b11, 0, none⟩ = some (.int .i64 ec.id) ∧ W.cell? ⟨b11, 1, none⟩ = some (.int .i64 ec.page)) := Lib.hid (fun W hc => ⟨hc.cell HS0.out.1, hc.cell HS0.out.2.1, hc.cell HS0.out.2.2.1, hc.cell HS0.out.2.2.2.1, hc.cell HS0.out.2.2.2.2.1, hc.cell HS0.out.2.2.2.2.2.1, hc.cell HS0.out.2.2.2.2.2.2.1, hc.cell HS0.out.2.2.2.2.2.2.2.1, hc.cell HS0.out.2.2.2.2.2.2.2.2.1, hc.cell HS0.out.2.2.2.2.2.2.2.2.2.1, hc.cell HS0.out.2.2.2.2.2.2.2.2.2.2.1, hc.cell HS0.out.2.2.2.2.2.2.2.2.2.2.2.1, hc.cell HS0.out.2.2.2.2.2.2.2.2.2.2.2.2⟩)
          have HWD : Hid (Chg (fun _ => False) w14 w14.drew) := Lib.hid (Chg.refl _ w14).drewR
          generalize w14.drew = wD at *
          refine wpAnyH_take (i := 0) (v := ?_) rfl (by kernel_rfl) (by kernel_rfl) (by kernel_rfl) (fun _ _ _ h => h) (Or.inl ⟨by rfl, ?_⟩) (by assumption) ?_
          rotate_left
          · (intro wq hSw; (try dsimp only at hSw); go_simp; (try with_reducible rfl))
          simp only [Act.put, List.getElem_toArray, List.getElem_cons_zero, List.getElem_cons_succ, List.setIfInBounds_toArray, List.set_cons_zero, List.set_cons_succ]
          refine wpAnyH_take (i := 1) (v := ?_) rfl (by kernel_rfl) (by kernel_rfl) (by kernel_rfl) (fun _ _ _ h => h) (Or.inl ⟨by rfl, ?_⟩) (by assumption) ?_
          rotate_left
          · (intro wq hSw; (try dsimp only at hSw); go_simp; (try with_reducible rfl))
          simp only [Act.put, List.getElem_toArray, List.getElem_cons_zero, List.getElem_cons_succ, List.setIfInBounds_toArray, List.set_cons_zero, List.set_cons_succ]
          refine wpAnyH_take (i := 2) (v := ?_) rfl (by kernel_rfl) (by kernel_rfl) (by kernel_rfl) (fun _ _ _ h => h) (Or.inl ⟨by rfl, ?_⟩) (by assumption) ?_
          rotate_left
          · (intro wq hSw; (try dsimp only at hSw); go_simp; (try with_reducible rfl))
          simp only [Act.put, List.getElem_toArray, List.getElem_cons_zero, List.getElem_cons_succ, List.setIfInBounds_toArray, List.set_cons_zero, List.set_cons_succ]
          refine wpAnyH_take (i := 3) (v := ?_) rfl (by kernel_rfl) (by kernel_rfl) (by kernel_rfl) (fun _ _ _ h => h) (Or.inl ⟨by rfl, ?_⟩) (by assumption) ?_
          rotate_left
          · (intro wq hSw; (try dsimp only at hSw); go_simp; (try with_reducible rfl))
          simp only [Act.put, List.getElem_toArray, List.getElem_cons_zero, List.getElem_cons_succ, List.setIfInBounds_toArray, List.set_cons_zero, List.set_cons_succ]
          refine wpAnyH_take (i := 4) (v := ?_) rfl (by kernel_rfl) (by kernel_rfl) (by kernel_rfl) (fun _ _ _ h => h) (Or.inl ⟨by rfl, ?_⟩) (by assumption) ?_
          rotate_left
          · (intro wq hSw; (try dsimp only at hSw); go_simp; (try with_reducible rfl))
          simp only [Act.put, List.getElem_toArray, List.getElem_cons_zero, List.getElem_cons_succ, List.setIfInBounds_toArray, List.set_cons_zero, List.set_cons_succ]
          refine wpAnyH_take (i := 5) (v := ?_) rfl (by kernel_rfl) (by kernel_rfl) (by kernel_rfl) (fun _ _ _ h => h) (Or.inl ⟨by rfl, ?_⟩) (by assumption) ?_
          rotate_left
          · (intro wq hSw; (try dsimp only at hSw); go_simp; (try with_reducible rfl))
          simp only [Act.put, List.getElem_toArray, List.getElem_cons_zero, List.getElem_cons_succ, List.setIfInBounds_toArray, List.set_cons_zero, List.set_cons_succ]
          refine wpAnyH_take (i := 6) (v := ?_) rfl (by kernel_rfl) (by kernel_rfl) (by kernel_rfl) (fun _ _ _ h => h) (Or.inl ⟨by rfl, ?_⟩) (by assumption) ?_
          rotate_left
          · (intro wq hSw; (try dsimp only at hSw); go_simp; (try with_reducible rfl))
          simp only [Act.put, List.getElem_toArray, List.getElem_cons_zero, List.getElem_cons_succ, List.setIfInBounds_toArray, List.set_cons_zero, List.set_cons_succ]
          refine wpAnyH_take (i := 7) (v := ?_) rfl (by kernel_rfl) (by kernel_rfl) (by kernel_rfl) (fun _ _ _ h => h) (Or.inl ⟨by rfl, ?_⟩) (by assumption) ?_
          rotate_left
          · (intro wq hSw; (try dsimp only at hSw); go_simp; (try with_reducible rfl))
          simp only [Act.put, List.getElem_toArray, List.getElem_cons_zero, List.getElem_cons_succ, List.setIfInBounds_toArray, List.set_cons_zero, List.set_cons_succ]
          refine wpAnyH_take (i := 8) (v := ?_) rfl (by kernel_rfl) (by kernel_rfl) (by kernel_rfl) (fun _ _ _ h => h) (Or.inl ⟨by rfl, ?_⟩) (by assumption) ?_
          rotate_left
          · (intro wq hSw; (try dsimp only at hSw); go_simp; (try with_reducible rfl))
          simp only [Act.put, List.getElem_toArray, List.getElem_cons_zero, List.getElem_cons_succ, List.setIfInBounds_toArray, List.set_cons_zero, List.set_cons_succ]
          refine wpAnyH_take (i := 9) (v := ?_) rfl (by kernel_rfl) (by kernel_rfl) (by kernel_rfl) (fun _ _ _ h => h) (Or.inl ⟨by rfl, ?_⟩) (by assumption) ?_
          rotate_left
          · (intro wq hSw; (try dsimp only at hSw); go_simp; (try with_reducible rfl))
          simp only [Act.put, List.getElem_toArray, List.getElem_cons_zero, List.getElem_cons_succ, List.setIfInBounds_toArray, List.set_cons_zero, List.set_cons_succ]
          first
          | (refine wpAnyH_take (i := 10) (v := undef) rfl (by kernel_rfl) (by kernel_rfl) (by kernel_rfl) (fun _ _ _ h => h) (Or.inr ⟨by rfl, rfl⟩) (by assumption) ?_)
          | (refine wpAnyH_take (i := 10) (v := ?_) rfl (by kernel_rfl) (by kernel_rfl) (by kernel_rfl) (fun _ _ _ h => h) (Or.inl ⟨by rfl, ?_⟩) (by assumption) ?_; rotate_left; (focus (intro wq hSw; (try dsimp only at hSw); go_simp; (try with_reducible rfl))))
          simp only [Act.put, List.getElem_toArray, List.getElem_cons_zero, List.getElem_cons_succ, List.setIfInBounds_toArray, List.set_cons_zero, List.set_cons_succ]
          first
          | (refine wpAnyH_take (i := 11) (v := undef) rfl (by kernel_rfl) (by kernel_rfl) (by kernel_rfl) (fun _ _ _ h => h) (Or.inr ⟨by rfl, rfl⟩) (by assumption) ?_)
          | (refine wpAnyH_take (i := 11) (v := ?_) rfl (by kernel_rfl) (by kernel_rfl) (by kernel_rfl) (fun _ _ _ h => h) (Or.inl ⟨by rfl, ?_⟩) (by assumption) ?_; rotate_left; (focus (intro wq hSw; (try dsimp only at hSw); go_simp; (try with_reducible rfl))))
          simp only [Act.put, List.getElem_toArray, List.getElem_cons_zero, List.getElem_cons_succ, List.setIfInBounds_toArray, List.set_cons_zero, List.set_cons_succ]
          first
          | (refine wpAnyH_take (i := 12) (v := undef) rfl (by kernel_rfl) (by kernel_rfl) (by kernel_rfl) (fun _ _ _ h => h) (Or.inr ⟨by rfl, rfl⟩) (by assumption) ?_)
          | (refine wpAnyH_take (i := 12) (v := ?_) rfl (by kernel_rfl) (by kernel_rfl) (by kernel_rfl) (fun _ _ _ h => h) (Or.inl ⟨by rfl, ?_⟩) (by assumption) ?_; rotate_left; (focus (intro wq hSw; (try dsimp only at hSw); go_simp; (try with_reducible rfl))))
          simp only [Act.put, List.getElem_toArray, List.getElem_cons_zero, List.getElem_cons_succ, List.setIfInBounds_toArray, List.set_cons_zero, List.set_cons_succ]
          first
          | (refine wpAnyH_take (i := 13) (v := undef) rfl (by kernel_rfl) (by kernel_rfl) (by kernel_rfl) (fun _ _ _ h => h) (Or.inr ⟨by rfl, rfl⟩) (by assumption) ?_)
          | (refine wpAnyH_take (i := 13) (v := ?_) rfl (by kernel_rfl) (by kernel_rfl) (by kernel_rfl) (fun _ _ _ h => h) (Or.inl ⟨by rfl, ?_⟩) (by assumption) ?_; rotate_left; (focus (intro wq hSw; (try dsimp only at hSw); go_simp; (try with_reducible rfl))))
          simp only [Act.put, List.getElem_toArray, List.getElem_cons_zero, List.getElem_cons_succ, List.setIfInBounds_toArray, List.set_cons_zero, List.set_cons_succ]
          first
          | (refine wpAnyH_take (i := 14) (v := undef) rfl (by kernel_rfl) (by kernel_rfl) (by kernel_rfl) (fun _ _ _ h => h) (Or.inr ⟨by rfl, rfl⟩) (by assumption) ?_)
          | (refine wpAnyH_take (i := 14) (v := ?_) rfl (by kernel_rfl) (by kernel_rfl) (by kernel_rfl) (fun _ _ _ h => h) (Or.inl ⟨by rfl, ?_⟩) (by assumption) ?_; rotate_left; (focus (intro wq hSw; (try dsimp only at hSw); go_simp; (try with_reducible rfl))))
          simp only [Act.put, List.getElem_toArray, List.getElem_cons_zero, List.getElem_cons_succ, List.setIfInBounds_toArray, List.set_cons_zero, List.set_cons_succ]
          first
          | (refine wpAnyH_take (i := 15) (v := undef) rfl (by kernel_rfl) (by kernel_rfl) (by kernel_rfl) (fun _ _ _ h => h) (Or.inr ⟨by rfl, rfl⟩) (by assumption) ?_)
          | (refine wpAnyH_take (i := 15) (v := ?_) rfl (by kernel_rfl) (by kernel_rfl) (by kernel_rfl) (fun _ _ _ h => h) (Or.inl ⟨by rfl, ?_⟩) (by assumption) ?_; rotate_left; (focus (intro wq hSw; (try dsimp only at hSw); go_simp; (try with_reducible rfl))))
          simp only [Act.put, List.getElem_toArray, List.getElem_cons_zero, List.getElem_cons_succ, List.setIfInBounds_toArray, List.set_cons_zero, List.set_cons_succ]
          first
          | (refine wpAnyH_take (i := 16) (v := undef) rfl (by kernel_rfl) (by kernel_rfl) (by kernel_rfl) (fun _ _ _ h => h) (Or.inr ⟨by rfl, rfl⟩) (by assumption) ?_)
          | (refine wpAnyH_take (i := 16) (v := ?_) rfl (by kernel_rfl) (by kernel_rfl) (by kernel_rfl) (fun _ _ _ h => h) (Or.inl ⟨by rfl, ?_⟩) (by assumption) ?_; rotate_left; (focus (intro wq hSw; (try dsimp only at hSw); go_simp; (try with_reducible rfl))))
          simp only [Act.put, List.getElem_toArray, List.getElem_cons_zero, List.getElem_cons_succ, List.setIfInBounds_toArray, List.set_cons_zero, List.set_cons_succ]
          refine wpAnyH_take (i := 17) (v := ?_) rfl (by kernel_rfl) (by kernel_rfl) (by kernel_rfl) (fun _ _ _ h => h) (Or.inl ⟨by rfl, ?_⟩) (by assumption) ?_
          rotate_left
          · (intro wq hSw; (try dsimp only at hSw); go_simp; (try with_reducible rfl))
          simp only [Act.put, List.getElem_toArray, List.getElem_cons_zero, List.getElem_cons_succ, List.setIfInBounds_toArray, List.set_cons_zero, List.set_cons_succ]
          refine wpAnyH_take (i := 18) (v := ?_) rfl (by kernel_rfl) (by kernel_rfl) (by kernel_rfl) (fun _ _ _ h => h) (Or.inl ⟨by rfl, ?_⟩) (by assumption) ?_
          rotate_left
          · (intro wq hSw; (try dsimp only at hSw); go_simp; (try with_reducible rfl))
          simp only [Act.put, List.getElem_toArray, List.getElem_cons_zero, List.getElem_cons_succ, List.setIfInBounds_toArray, List.set_cons_zero, List.set_cons_succ]
          first
          | (refine wpAnyH_take (i := 19) (v := undef) rfl (by kernel_rfl) (by kernel_rfl) (by kernel_rfl) (fun _ _ _ h => h) (Or.inr ⟨by rfl, rfl⟩) (by assumption) ?_)
          | (refine wpAnyH_take (i := 19) (v := ?_) rfl (by kernel_rfl) (by kernel_rfl) (by kernel_rfl) (fun _ _ _ h => h) (Or.inl ⟨by rfl, ?_⟩) (by assumption) ?_; rotate_left; (focus (intro wq hSw; (try dsimp only at hSw); go_simp; (try with_reducible rfl))))
          simp only [Act.put, List.getElem_toArray, List.getElem_cons_zero, List.getElem_cons_succ, List.setIfInBounds_toArray, List.set_cons_zero, List.set_cons_succ]
          first
          | (refine wpAnyH_take (i := 20) (v := undef) rfl (by kernel_rfl) (by kernel_rfl) (by kernel_rfl) (fun _ _ _ h => h) (Or.inr ⟨by rfl, rfl⟩) (by assumption) ?_)
          | (refine wpAnyH_take (i := 20) (v := ?_) rfl (by kernel_rfl) (by kernel_rfl) (by kernel_rfl) (fun _ _ _ h => h) (Or.inl ⟨by rfl, ?_⟩) (by assumption) ?_; rotate_left; (focus (intro wq hSw; (try dsimp only at hSw); go_simp; (try with_reducible rfl))))
          simp only [Act.put, List.getElem_toArray, List.getElem_cons_zero, List.getElem_cons_succ, List.setIfInBounds_toArray, List.set_cons_zero, List.set_cons_succ]
          first
          | (refine wpAnyH_take (i := 21) (v := undef) rfl (by kernel_rfl) (by kernel_rfl) (by kernel_rfl) (fun _ _ _ h => h) (Or.inr ⟨by rfl, rfl⟩) (by assumption) ?_)
          | (refine wpAnyH_take (i := 21) (v := ?_) rfl (by kernel_rfl) (by kernel_rfl) (by kernel_rfl) (fun _ _ _ h => h) (Or.inl ⟨by rfl, ?_⟩) (by assumption) ?_; rotate_left; (focus (intro wq hSw; (try dsimp only at hSw); go_simp; (try with_reducible rfl))))
          simp only [Act.put, List.getElem_toArray, List.getElem_cons_zero, List.getElem_cons_succ, List.setIfInBounds_toArray, List.set_cons_zero, List.set_cons_succ]
          first
          | (refine wpAnyH_take (i := 22) (v := undef) rfl (by kernel_rfl) (by kernel_rfl) (by kernel_rfl) (fun _ _ _ h => h) (Or.inr ⟨by rfl, rfl⟩) (by assumption) ?_)
          | (refine wpAnyH_take (i := 22) (v := ?_) rfl (by kernel_rfl) (by kernel_rfl) (by kernel_rfl) (fun _ _ _ h => h) (Or.inl ⟨by rfl, ?_⟩) (by assumption) ?_; rotate_left; (focus (intro wq hSw; (try dsimp only at hSw); go_simp; (try with_reducible rfl))))
          simp only [Act.put, List.getElem_toArray, List.getElem_cons_zero, List.getElem_cons_succ, List.setIfInBounds_toArray, List.set_cons_zero, List.set_cons_succ]
          first
          | (refine wpAnyH_take (i := 23) (v := undef) rfl (by kernel_rfl) (by kernel_rfl) (by kernel_rfl) (fun _ _ _ h => h) (Or.inr ⟨by rfl, rfl⟩) (by assumption) ?_)
          | (refine wpAnyH_take (i := 23) (v := ?_) rfl (by kernel_rfl) (by kernel_rfl) (by kernel_rfl) (fun _ _ _ h => h) (Or.inl ⟨by rfl, ?_⟩) (by assumption) ?_; rotate_left; (focus (intro wq hSw; (try dsimp only at hSw); go_simp; (try with_reducible rfl))))
          simp only [Act.put, List.getElem_toArray, List.getElem_cons_zero, List.getElem_cons_succ, List.setIfInBounds_toArray, List.set_cons_zero, List.set_cons_succ]
          refine wpAnyH_take (i := 24) (v := ?_) rfl (by kernel_rfl) (by kernel_rfl) (by kernel_rfl) (fun _ _ _ h => h) (Or.inl ⟨by rfl, ?_⟩) (by assumption) ?_
          rotate_left
          · (intro wq hSw; (try dsimp only at hSw); go_simp; (try with_reducible rfl))
          simp only [Act.put, List.getElem_toArray, List.getElem_cons_zero, List.getElem_cons_succ, List.setIfInBounds_toArray, List.set_cons_zero, List.set_cons_succ]
          refine wpAnyH_take (i := 25) (v := ?_) rfl (by kernel_rfl) (by kernel_rfl) (by kernel_rfl) (fun _ _ _ h => h) (Or.inl ⟨by rfl, ?_⟩) (by assumption) ?_
          rotate_left
          · (intro wq hSw; (try dsimp only at hSw); go_simp; (try with_reducible rfl))
          simp only [Act.put, List.getElem_toArray, List.getElem_cons_zero, List.getElem_cons_succ, List.setIfInBounds_toArray, List.set_cons_zero, List.set_cons_succ]
          first
          | (refine wpAnyH_take (i := 27) (v := undef) rfl (by kernel_rfl) (by kernel_rfl) (by kernel_rfl) (fun _ _ _ h => h) (Or.inr ⟨by rfl, rfl⟩) (by assumption) ?_)
          | (refine wpAnyH_take (i := 27) (v := ?_) rfl (by kernel_rfl) (by kernel_rfl) (by kernel_rfl) (fun _ _ _ h => h) (Or.inl ⟨by rfl, ?_⟩) (by assumption) ?_; rotate_left; (focus (intro wq hSw; (try dsimp only at hSw); go_simp; (try with_reducible rfl))))
          simp only [Act.put, List.getElem_toArray, List.getElem_cons_zero, List.getElem_cons_succ, List.setIfInBounds_toArray, List.set_cons_zero, List.set_cons_succ]
          first
          | (refine wpAnyH_take (i := 28) (v := undef) rfl (by kernel_rfl) (by kernel_rfl) (by kernel_rfl) (fun _ _ _ h => h) (Or.inr ⟨by rfl, rfl⟩) (by assumption) ?_)
          | (refine wpAnyH_take (i := 28) (v := ?_) rfl (by kernel_rfl) (by kernel_rfl) (by kernel_rfl) (fun _ _ _ h => h) (Or.inl ⟨by rfl, ?_⟩) (by assumption) ?_; rotate_left; (focus (intro wq hSw; (try dsimp only at hSw); go_simp; (try with_reducible rfl))))
          simp only [Act.put, List.getElem_toArray, List.getElem_cons_zero, List.getElem_cons_succ, List.setIfInBounds_toArray, List.set_cons_zero, List.set_cons_succ]
          refine wpAnyH_ready (rs := [26]) (by kernel_rfl) (by simp) ?_
          refine AllReadyH.cons (by simp only [List.getElem?_toArray, List.getElem?_cons_succ, List.getElem?_cons_zero]; rfl) (fun K hK => ?_) AllReadyH.nil
          (go_simp; go_at_call 19; refine (HCU2.out _ HWD.out).mono ?_; rintro _ wq ⟨qn, qp, rfl, hcq, hmq⟩; obtain ⟨⟨an, ann, anc, rfl⟩, ap, apn, apc, rfl⟩ := hmq.vals; unfold EntC; rw [HMU.out]; have HMQ := Lib.hid hmq; have HCQ := Lib.hid (HWD.out.trans' hcq); have HCQD := Lib.hid hcq; have zc := HKS.out _ hcq; clear hcq hmq; go_simp)
          refine hK.out _ _ ?_ (fun hHeld => ?_)
          · (first | exact HS0.out | exact HKS.out _ (Chg.refl _ _) | exact zc)
          clear hK K
          (try simp only [Act.put, List.getElem_toArray, List.getElem_cons_zero, List.getElem_cons_succ, List.setIfInBounds_toArray, List.set_cons_zero, List.set_cons_succ])
          refine wpAnyH_ready (rs := [29]) (by kernel_rfl) (by simp) ?_
          refine AllReadyH.cons (by simp only [List.getElem?_toArray, List.getElem?_cons_succ, List.getElem?_cons_zero]; rfl) (fun K hK => ?_) AllReadyH.nil
          (go_simp; go_at_call 18; refine (sameEntry_any _ me.id me.page me.x me.y url me.title an ap mn mp ann anc apn apc mnn mnc mpn mpc me.msg HMQ.out (HMM.out _ HCQ.out) HEM.out).mono ?_; rintro _ wf ⟨rfl, hcf⟩; have HCF := Lib.hid (HCQ.out.trans' hcf); have zc := HKS.out _ (HCQD.out.trans' hcf); clear hcf; go_simp)
          refine hK.out _ _ ?_ (fun hHeld => ?_)
          · (first | exact HS0.out | exact HKS.out _ (Chg.refl _ _) | exact zc)
          clear hK K
          (try simp only [Act.put, List.getElem_toArray, List.getElem_cons_zero, List.getElem_cons_succ, List.setIfInBounds_toArray, List.set_cons_zero, List.set_cons_succ])
          first
          | (refine wpAnyH_take (i := 30) (v := undef) rfl (by kernel_rfl) (by kernel_rfl) (by kernel_rfl) (fun _ _ _ h => h) (Or.inr ⟨by rfl, rfl⟩) (by assumption) ?_)
          | (refine wpAnyH_take (i := 30) (v := ?_) rfl (by kernel_rfl) (by kernel_rfl) (by kernel_rfl) (fun _ _ _ h => h) (Or.inl ⟨by rfl, ?_⟩) (by assumption) ?_; rotate_left; (focus (intro wq hSw; (try dsimp only at hSw); go_simp; (try with_reducible rfl))))
          simp only [Act.put, List.getElem_toArray, List.getElem_cons_zero, List.getElem_cons_succ, List.setIfInBounds_toArray, List.set_cons_zero, List.set_cons_succ]
          refine wpAnyH_take (i := 31) (v := ?_) rfl (by kernel_rfl) (by kernel_rfl) (by kernel_rfl) (fun _ _ _ h => h) (Or.inl ⟨by rfl, ?_⟩) (by assumption) ?_
          rotate_left
          · (intro wq hSw; (try dsimp only at hSw); go_simp; (try with_reducible rfl))
          simp only [Act.put, List.getElem_toArray, List.getElem_cons_zero, List.getElem_cons_succ, List.setIfInBounds_toArray, List.set_cons_zero, List.set_cons_succ]
          refine wpAnyH_take (i := 32) (v := ?_) rfl (by kernel_rfl) (by kernel_rfl) (by kernel_rfl) (fun _ _ _ h => h) (Or.inl ⟨by rfl, ?_⟩) (by assumption) ?_
          rotate_left
          · (intro wq hSw; (try dsimp only at hSw); go_simp; (try with_reducible rfl))
          simp only [Act.put, List.getElem_toArray, List.getElem_cons_zero, List.getElem_cons_succ, List.setIfInBounds_toArray, List.set_cons_zero, List.set_cons_succ]
          first
          | (refine wpAnyH_take (i := 33) (v := undef) rfl (by kernel_rfl) (by kernel_rfl) (by kernel_rfl) (fun _ _ _ h => h) (Or.inr ⟨by rfl, rfl⟩) (by assumption) ?_)
          | (refine wpAnyH_take (i := 33) (v := ?_) rfl (by kernel_rfl) (by kernel_rfl) (by kernel_rfl) (fun _ _ _ h => h) (Or.inl ⟨by rfl, ?_⟩) (by assumption) ?_; rotate_left; (focus (intro wq hSw; (try dsimp only at hSw); go_simp; (try with_reducible rfl))))
          simp only [Act.put, List.getElem_toArray, List.getElem_cons_zero, List.getElem_cons_succ, List.setIfInBounds_toArray, List.set_cons_zero, List.set_cons_succ]
          first
          | (refine wpAnyH_take (i := 34) (v := undef) rfl (by kernel_rfl) (by kernel_rfl) (by kernel_rfl) (fun _ _ _ h => h) (Or.inr ⟨by rfl, rfl⟩) (by assumption) ?_)
          | (refine wpAnyH_take (i := 34) (v := ?_) rfl (by kernel_rfl) (by kernel_rfl) (by kernel_rfl) (fun _ _ _ h => h) (Or.inl ⟨by rfl, ?_⟩) (by assumption) ?_; rotate_left; (focus (intro wq hSw; (try dsimp only at hSw); go_simp; (try with_reducible rfl))))
          simp only [Act.put, List.getElem_toArray, List.getElem_cons_zero, List.getElem_cons_succ, List.setIfInBounds_toArray, List.set_cons_zero, List.set_cons_succ]
          first
          | (refine wpAnyH_take (i := 35) (v := undef) rfl (by kernel_rfl) (by kernel_rfl) (by kernel_rfl) (fun _ _ _ h => h) (Or.inr ⟨by rfl, rfl⟩) (by assumption) ?_)
          | (refine wpAnyH_take (i := 35) (v := ?_) rfl (by kernel_rfl) (by kernel_rfl) (by kernel_rfl) (fun _ _ _ h => h) (Or.inl ⟨by rfl, ?_⟩) (by assumption) ?_; rotate_left; (focus (intro wq hSw; (try dsimp only at hSw); go_simp; (try with_reducible rfl))))
          simp only [Act.put, List.getElem_toArray, List.getElem_cons_zero, List.getElem_cons_succ, List.setIfInBounds_toArray, List.set_cons_zero, List.set_cons_succ]
          first
          | (refine wpAnyH_take (i := 36) (v := undef) rfl (by kernel_rfl) (by kernel_rfl) (by kernel_rfl) (fun _ _ _ h => h) (Or.inr ⟨by rfl, rfl⟩) (by assumption) ?_)
          | (refine wpAnyH_take (i := 36) (v := ?_) rfl (by kernel_rfl) (by kernel_rfl) (by kernel_rfl) (fun _ _ _ h => h) (Or.inl ⟨by rfl, ?_⟩) (by assumption) ?_; rotate_left; (focus (intro wq hSw; (try dsimp only at hSw); go_simp; (try with_reducible rfl))))
          simp only [Act.put, List.getElem_toArray, List.getElem_cons_zero, List.getElem_cons_succ, List.setIfInBounds_toArray, List.set_cons_zero, List.set_cons_succ]
          first
          | (refine wpAnyH_take (i := 37) (v := undef) rfl (by kernel_rfl) (by kernel_rfl) (by kernel_rfl) (fun _ _ _ h => h) (Or.inr ⟨by rfl, rfl⟩) (by assumption) ?_)
          | (refine wpAnyH_take (i := 37) (v := ?_) rfl (by kernel_rfl) (by kernel_rfl) (by kernel_rfl) (fun _ _ _ h => h) (Or.inl ⟨by rfl, ?_⟩) (by assumption) ?_; rotate_left; (focus (intro wq hSw; (try dsimp only at hSw); go_simp; (try with_reducible rfl))))
          simp only [Act.put, List.getElem_toArray, List.getElem_cons_zero, List.getElem_cons_succ, List.setIfInBounds_toArray, List.set_cons_zero, List.set_cons_succ]
          first
          | (refine wpAnyH_take (i := 38) (v := undef) rfl (by kernel_rfl) (by kernel_rfl) (by kernel_rfl) (fun _ _ _ h => h) (Or.inr ⟨by rfl, rfl⟩) (by assumption) ?_)
          | (refine wpAnyH_take (i := 38) (v := ?_) rfl (by kernel_rfl) (by kernel_rfl) (by kernel_rfl) (fun _ _ _ h => h) (Or.inl ⟨by rfl, ?_⟩) (by assumption) ?_; rotate_left; (focus (intro wq hSw; (try dsimp only at hSw); go_simp; (try with_reducible rfl))))
          simp only [Act.put, List.getElem_toArray, List.getElem_cons_zero, List.getElem_cons_succ, List.setIfInBounds_toArray, List.set_cons_zero, List.set_cons_succ]
          first
          | (refine wpAnyH_take (i := 39) (v := undef) rfl (by kernel_rfl) (by kernel_rfl) (by kernel_rfl) (fun _ _ _ h => h) (Or.inr ⟨by rfl, rfl⟩) (by assumption) ?_)
          | (refine wpAnyH_take (i := 39) (v := ?_) rfl (by kernel_rfl) (by kernel_rfl) (by kernel_rfl) (fun _ _ _ h => h) (Or.inl ⟨by rfl, ?_⟩) (by assumption) ?_; rotate_left; (focus (intro wq hSw; (try dsimp only at hSw); go_simp; (try with_reducible rfl))))
          simp only [Act.put, List.getElem_toArray, List.getElem_cons_zero, List.getElem_cons_succ, List.setIfInBounds_toArray, List.set_cons_zero, List.set_cons_succ]
          refine wpAnyH_take (i := 40) (v := ?_) rfl (by kernel_rfl) (by kernel_rfl) (by kernel_rfl) (fun _ _ _ h => h) (Or.inl ⟨by rfl, ?_⟩) (by assumption) ?_
          rotate_left
          · (intro wq hSw; (try dsimp only at hSw); go_simp; (try with_reducible rfl))
          simp only [Act.put, List.getElem_toArray, List.getElem_cons_zero, List.getElem_cons_succ, List.setIfInBounds_toArray, List.set_cons_zero, List.set_cons_succ]
          refine wpAnyH_take (i := 41) (v := ?_) rfl (by kernel_rfl) (by kernel_rfl) (by kernel_rfl) (fun _ _ _ h => h) (Or.inl ⟨by rfl, ?_⟩) (by assumption) ?_
          rotate_left
          · (intro wq hSw; (try dsimp only at hSw); go_simp; (try with_reducible rfl))
          simp only [Act.put, List.getElem_toArray, List.getElem_cons_zero, List.getElem_cons_succ, List.setIfInBounds_toArray, List.set_cons_zero, List.set_cons_succ]
          first
          | (refine wpAnyH_take (i := 42) (v := undef) rfl (by kernel_rfl) (by kernel_rfl) (by kernel_rfl) (fun _ _ _ h => h) (Or.inr ⟨by rfl, rfl⟩) (by assumption) ?_)
          | (refine wpAnyH_take (i := 42) (v := ?_) rfl (by kernel_rfl) (by kernel_rfl) (by kernel_rfl) (fun _ _ _ h => h) (Or.inl ⟨by rfl, ?_⟩) (by assumption) ?_; rotate_left; (focus (intro wq hSw; (try dsimp only at hSw); go_simp; (try with_reducible rfl))))
          simp only [Act.put, List.getElem_toArray, List.getElem_cons_zero, List.getElem_cons_succ, List.setIfInBounds_toArray, List.set_cons_zero, List.set_cons_succ]
          first
          | (refine wpAnyH_take (i := 43) (v := undef) rfl (by kernel_rfl) (by kernel_rfl) (by kernel_rfl) (fun _ _ _ h => h) (Or.inr ⟨by rfl, rfl⟩) (by assumption) ?_)
          | (refine wpAnyH_take (i := 43) (v := ?_) rfl (by kernel_rfl) (by kernel_rfl) (by kernel_rfl) (fun _ _ _ h => h) (Or.inl ⟨by rfl, ?_⟩) (by assumption) ?_; rotate_left; (focus (intro wq hSw; (try dsimp only at hSw); go_simp; (try with_reducible rfl))))
          simp only [Act.put, List.getElem_toArray, List.getElem_cons_zero, List.getElem_cons_succ, List.setIfInBounds_toArray, List.set_cons_zero, List.set_cons_succ]
          first
          | (refine wpAnyH_take (i := 44) (v := undef) rfl (by kernel_rfl) (by kernel_rfl) (by kernel_rfl) (fun _ _ _ h => h) (Or.inr ⟨by rfl, rfl⟩) (by assumption) ?_)
          | (refine wpAnyH_take (i := 44) (v := ?_) rfl (by kernel_rfl) (by kernel_rfl) (by kernel_rfl) (fun _ _ _ h => h) (Or.inl ⟨by rfl, ?_⟩) (by assumption) ?_; rotate_left; (focus (intro wq hSw; (try dsimp only at hSw); go_simp; (try with_reducible rfl))))
          simp only [Act.put, List.getElem_toArray, List.getElem_cons_zero, List.getElem_cons_succ, List.setIfInBounds_toArray, List.set_cons_zero, List.set_cons_succ]
          first
          | (refine wpAnyH_take (i := 45) (v := undef) rfl (by kernel_rfl) (by kernel_rfl) (by kernel_rfl) (fun _ _ _ h => h) (Or.inr ⟨by rfl, rfl⟩) (by assumption) ?_)
          | (refine wpAnyH_take (i := 45) (v := ?_) rfl (by kernel_rfl) (by kernel_rfl) (by kernel_rfl) (fun _ _ _ h => h) (Or.inl ⟨by rfl, ?_⟩) (by assumption) ?_; rotate_left; (focus (intro wq hSw; (try dsimp only at hSw); go_simp; (try with_reducible rfl))))
          simp only [Act.put, List.getElem_toArray, List.getElem_cons_zero, List.getElem_cons_succ, List.setIfInBounds_toArray, List.set_cons_zero, List.set_cons_succ]
          first
          | (refine wpAnyH_take (i := 46) (v := undef) rfl (by kernel_rfl) (by kernel_rfl) (by kernel_rfl) (fun _ _ _ h => h) (Or.inr ⟨by rfl, rfl⟩) (by assumption) ?_)
          | (refine wpAnyH_take (i := 46) (v := ?_) rfl (by kernel_rfl) (by kernel_rfl) (by kernel_rfl) (fun _ _ _ h => h) (Or.inl ⟨by rfl, ?_⟩) (by assumption) ?_; rotate_left; (focus (intro wq hSw; (try dsimp only at hSw); go_simp; (try with_reducible rfl))))
          simp only [Act.put, List.getElem_toArray, List.getElem_cons_zero, List.getElem_cons_succ, List.setIfInBounds_toArray, List.set_cons_zero, List.set_cons_succ]
          first
          | (refine wpAnyH_take (i := 47) (v := undef) rfl (by kernel_rfl) (by kernel_rfl) (by kernel_rfl) (fun _ _ _ h => h) (Or.inr ⟨by rfl, rfl⟩) (by assumption) ?_)
          | (refine wpAnyH_take (i := 47) (v := ?_) rfl (by kernel_rfl) (by kernel_rfl) (by kernel_rfl) (fun _ _ _ h => h) (Or.inl ⟨by rfl, ?_⟩) (by assumption) ?_; rotate_left; (focus (intro wq hSw; (try dsimp only at hSw); go_simp; (try with_reducible rfl))))
          simp only [Act.put, List.getElem_toArray, List.getElem_cons_zero, List.getElem_cons_succ, List.setIfInBounds_toArray, List.set_cons_zero, List.set_cons_succ]
          refine wpAnyH_done (by kernel_rfl) ?_ _
          change wpList _ _ _ _ _ _
          simp only [List.drop_succ_cons, List.drop_zero]
          go_upto_region 20 with fail
          obtain ⟨s0, s1⟩ := zz.out _ HCF.out
          clear zc wb1 wb2 wb3 wb4 wc1 wc2 wc3 wc4 mx z1 z2 zu z5 z6
          have k1 : h2.at_ ≤ ch := HCC.out
          have k2 : (h2.at_ : Int) ≤ (ch : Int) := by omega
          have k3 : ¬ (ch : Int) < (h2.at_ : Int) := by omega
          have k4 : (0 : Int) ≤ (h2.at_ : Int) := by omega
          go_upto_block 2 with fail
          clear k1 k2 k3 k4
          clear s0 s1
          have HCFW := Lib.hid HCF.out
          clear HCF HCQ HCQD HMQ HWD HKS HS0 HCU2 HMM
          go_wp2_with fail
          go_loopw [6, 14, 15, 109] (fun _ _ _ i wr => ∃ k : Nat, k ≤ h2.at_ ∧ i = .int .i64 k ∧ Hid (Chg (fun _ => False) w14 wr)) (fun _ _ _ i _ => h2.at_ - (intOf i).toNat)
          case atStart => exact ⟨0, Nat.zero_le _, rfl, HCFW⟩
          case round =>
            clear HCFW
            obtain ⟨k, hk, rfl, HCR⟩ := hrel
            by_cases hlt : k < h2.at_
            · have k0 : (0 : Int) ≤ (k : Int) := by omega
              have k1 : (k : Int) < (h2.at_ : Int) := by omega
              have hat2 : h2.at_ ≤ 50 := by have := HL2.out; omega
              have w64 : IntKind.i64.wrap ((k : Int) + 1) = ((k + 1 : Nat) : Int) := IntWalk.i64_in _ (by omega)
              have wkc : IntKind.i64.wrap ((k : Int) + (ct : Int)) = ((k + ct : Nat) : Int) := IntWalk.i64_in _ (by have := HCT.out; omega)
              have hg := HNO.out.get k hlt
              rw [HCT.out.2] at hg
              have hk2 : k < h2.list.length := by have := HNO.out.at_; omega
              have hkb : k + ct < (h.list.take (h.at_ + 1)).length := by rw [List.length_take]; have := HLEN.out; omega
              have hkh : k + ct < h.list.length := by rw [List.length_take] at hkb; omega
              obtain ⟨gx, ox, xn, xp, xnn, xnc, xpn, xpc, hgx, hm1, x0, x1, x2, x3, x4, x5, x6, x7⟩ := (HV2.out.still HCR.out).at hk2
              obtain ⟨gb, ob, yn, yp, ynn, ync, ypn, ypc, hgb, hm2, y0, y1, y2, y3, y4, y5, y6, y7⟩ := (HBE.out.still HCR.out).at (h := ⟨h.list.take (h.at_ + 1), 0, 0, 0, []⟩) hkb
              simp only [Option.some.injEq, Addr.mk.injEq, and_true] at hgx
              obtain ⟨rfl, rfl⟩ := hgx
              subst hgb
              have heq : h2.list[k] = h.list[k + ct] := by
                have := hg.1
                rw [List.getElem?_eq_getElem hk2, List.getElem?_eq_getElem hkh] at this
                simpa using this
              simp only [List.getElem_take] at hm2 y0 y1 y2 y3 y6 y7
              rw [← heq] at hm2 y0 y1 y2 y3 y6 y7
              have hok := HNO.out.enc _ (List.getElem_mem hk2)
              have HNX : Hid (k + 1 ≤ h2.at_) := Lib.hid hlt
              have j1 : ((k + ct : Nat) : Int) < (n1 : Int) := by have := hg.2; have := HN1.out; omega
              have j0 : (0 : Int) ≤ ((k + ct : Nat) : Int) := by omega
              have j2 : (k : Int) + (ct : Int) < (n1 : Int) := by have := hg.2; have := HN1.out; omega
              generalize h2.list[k] = e at *
              have HSE := Lib.hid (fun W (hc : Chg (fun _ => False) wr W) => sameEntry_any W e.id e.page e.x e.y e.url e.title xn xp yn yp xnn xnc xpn xpc ynn ync ypn ypc e.msg (hm1.chg hc (fun _ _ x => x.elim) (fun _ _ x => x)) (hm2.chg hc (fun _ _ x => x.elim) (fun _ _ x => x)) hok)
              clear hk hlt hm1 hm2 hok hg hk2 hkb hkh heq hat2
              go_upto_region 23 with fail
              have hca := Chg.alloc (fun _ => False) wr (.cells #[.int .i64 e.id, .int .i64 e.page, .string e.url, .string e.title, .slice xn xnn xnc, .slice xp xpn xpc, .int .i64 e.x, .int .i64 e.y] 34)
              have g15 := alloc_block wr (.cells #[.int .i64 e.id, .int .i64 e.page, .string e.url, .string e.title, .slice xn xnn xnc, .slice xp xpn xpc, .int .i64 e.x, .int .i64 e.y] 34)
              have HSE2 := Lib.hid (fun W (hc : Chg (fun _ => False) (wr.alloc (.cells #[.int .i64 e.id, .int .i64 e.page, .string e.url, .string e.title, .slice xn xnn xnc, .slice xp xpn xpc, .int .i64 e.x, .int .i64 e.y] 34)) W) => HSE.out W (hca.trans' hc))
              have HCA := Lib.hid (HCR.out.trans' hca)
              have y0 := hca.cell y0
              have y1 := hca.cell y1
              have y2 := hca.cell y2
              have y3 := hca.cell y3
              have y4 := hca.cell y4
              have y5 := hca.cell y5
              have y6 := hca.cell y6
              have y7 := hca.cell y7
              clear hca HSE x0 x1 x2 x3 x4 x5 x6 x7 HCR
              generalize wr.alloc (.cells #[.int .i64 e.id, .int .i64 e.page, .string e.url, .string e.title, .slice xn xnn xnc, .slice xp xpn xpc, .int .i64 e.x, .int .i64 e.y] 34) = wa at *
              generalize wr.heap.size = b15 at *
              have g0 := cell_of_block (i := 0) g15 rfl
              have g1 := cell_of_block (i := 1) g15 rfl
              have g2 := cell_of_block (i := 2) g15 rfl
              have g3 := cell_of_block (i := 3) g15 rfl
              have g4 := cell_of_block (i := 4) g15 rfl
              have g5 := cell_of_block (i := 5) g15 rfl
              have g6 := cell_of_block (i := 6) g15 rfl
              have g7 := cell_of_block (i := 7) g15 rfl
              simp only [List.getElem_toArray, List.getElem_cons_zero, List.getElem_cons_succ] at g0 g1 g2 g3 g4 g5 g6 g7
              have mg0 := Later.cell g0
              have mg1 := Later.cell g1
              have mg2 := Later.cell g2
              have mg3 := Later.cell g3
              have mg4 := Later.cell g4
              have mg5 := Later.cell g5
              have mg6 := Later.cell g6
              have mg7 := Later.cell g7
              have my0 := Later.cell y0
              have my1 := Later.cell y1
              have my2 := Later.cell y2
              have my3 := Later.cell y3
              have my4 := Later.cell y4
              have my5 := Later.cell y5
              have my6 := Later.cell y6
              have my7 := Later.cell y7
              clear g15 g0 y0 g1 y1 g2 y2 g3 y3 g4 y4 g5 y5 g6 y6 g7 y7
              refine wp_region_later (by kernel_rfl) (by kernel_rfl) ?_
              repeat (go_big_quiet_step ((go_at_call 18; exact Later.call (HSE2.out _ (Later.chg _)))))
              refine wpQuiet_nil ?_
              rintro _ ⟨y, rfl⟩
              have HCY := Lib.hid (HCA.out.trans' y.chg)
              generalize y.at_ = wy at *
              clear y mg0 my0 mg1 my1 mg2 my2 mg3 my3 mg4 my4 mg5 my5 mg6 my6 mg7 my7
              go_wp2_with fail
              go_roundw
              case rel => exact ⟨k + 1, HNX.out, rfl, HCY⟩
              case measure => have := HNX.out; simp [intOf, w64]; omega
            · have i1 : ¬ (k : Int) < (h2.at_ : Int) := by omega
              clear hk hlt
              go_wp2_with fail
              go_ret
              exact ⟨rfl, (HCH.out.trans' HCR.out).below (Nat.le_refl _) (fun k x => x.elim)⟩
end Go.Proofs.YtiecgbmeobpomaaDoor
namespace Go.Proofs.YtiecgbmeobpomaaDoor
open Go.RowKit Go.ChangeShapes
set_option linter.unusedVariables false
set_option linter.unusedSimpArgs false

theorem first_eq : (Rows.laid_unicode_utf8_first : DataW Unit) = Lib.firstData := (show (Rows.laid_unicode_utf8_first : DataW Unit) = Pinned.utf8First from rfl).trans Pinned.utf8First_eq
theorem accept_eq : (Rows.laid_unicode_utf8_acceptRanges : DataW Unit) = Lib.acceptData := by kernel_rfl
set_option maxRecDepth 100000 in
theorem utf8_of_laid48 {W : World} (h : laidMetH Tryd.prog Rows.historyEvictRow.laid W) : Lib.Utf8Tabs 0 1 W := by
  rw [MakeChecks.laidMetH_plain _ _ _ (by kernel_rfl)] at h
  have r3 := Lib.laidMet.reads h (n := "unicode/utf8.first") (d := Rows.laid_unicode_utf8_first) (.tail _ (.head _))
  have r4 := Lib.laidMet.reads h (n := "unicode/utf8.acceptRanges") (d := Rows.laid_unicode_utf8_acceptRanges) (.head _)
  rw [first_eq] at r3
  rw [accept_eq] at r4
  exact utf8Tabs_of_readsT (U8Types.of196 sh_lays196) ⟨by kernel_rfl, by kernel_rfl, by kernel_rfl, by kernel_rfl, by kernel_rfl, by kernel_rfl, by kernel_rfl⟩ r3 r4
end Go.Proofs.YtiecgbmeobpomaaDoor
namespace Go.Proofs.YtiecgbmeobpomaaDoor
set_option linter.unusedVariables false
open Go.ChangeShapes Go.WideShapes Go.ChangeAt Go.RowKit

theorem trod_lengths {P : Program} {H : Type} {enc : TypeId × Value → H} {W : World} : ∀ (ts : List TypeId) (vs : List Value) (ds : List (DataW H)) (ps : List MemPlace), DataW.TrodAll enc P W 0 (fun _ => true) true ts vs ds ps → ds.length = ts.length := by
  intro ts
  induction ts with
  | nil => intro vs ds ps h; cases vs <;> cases ds <;> first | rfl | exact h.elim
  | cons t ts ih => intro vs ds ps h; cases vs <;> cases ds <;> first | exact h.elim | (obtain ⟨_, _, _, h2, _⟩ := h; simp [ih _ _ _ h2])

/-- A law's contract lifted to its row, over listed variables. -/
theorem law_liftD {C : Checked} {os : Os} {f : FuncId} {fn : Func} {s : ChangeSpec} {H : Type} {enc : TypeId × Value → H} {tb : TypeId} {F : Stop.Interp} {laid : List (String × DataW Unit)} (started : os.Started)
    (own : ownKnob C.prog.godebug = none) (hl : laidOutB C.prog = true) (noInit : C.prog.inits.idxOf? f = none) (hfn : C.prog.funcs[f]? = some fn) (hts : rowed C.prog fn.params.toList = true) (hres : fn.resultTypes = #[tb]) (hbool : C.prog.underlying tb = some .bool) (hvars : s.vars = [])
    (hargs : ∀ ds : List (DataW H), ds.length = fn.params.toList.length → s.fn H ds = { results := [.lit (.bool true)], args := ds })
    (witness : ∃ (w : World) (tape : Tape) (i : Input), w.os = os ∧ (w.forCall tape i).Shaped C.prog ∧ i.vars = [] ∧ Input.okWide C.prog (w.forCall tape i) .any w.heap.size f i ∧
      (OpenSpec.ofChange s).preRow enc C.prog fn [] false laid (w.forCall tape i).memory i.args ∧ Assume.holds {} C.prog (lone (Frame.enter C.prog f i.args .normal) [] (w.forCall tape i)))
    (core : ∀ (W : World) (base : Nat) (vs : List Value) (ds : List (DataW H)) (ps : List MemPlace), (∀ (j : Nat) t v, fn.params.toList[j]? = some t → vs[j]? = some v → Value.okWide C.prog W .any base t v) →
      DataW.TrodAll enc C.prog W 0 (fun _ => true) true fn.params.toList vs ds ps → (DataW.weightsEach C.prog fn.params.toList ds).all (· ≤ reachBytes) = true → laidMetH C.prog laid W →
      Calls C.prog f vs.toArray W fun e W' => e = .returned (.bool true) ∧ Below W.heap.size W W') :
    ReturnsInHanded {} C os f .any ((OpenSpec.ofChange s).preRow enc C.prog fn [] false laid) (((OpenSpec.ofChange s).at F).post enc C.prog fn false true false false) := by
  refine returnsInHanded_of_row (C := C) (s := OpenSpec.ofChange s) own started noInit hfn witness ?_
  intro W base args ds gs before hval hW _ _ hsz hL _ _
  have hW' : DataW.Whole enc C.prog fn.params.toList s.vars false W args.toList ds gs before := hW
  obtain ⟨p, q, hA, hV, rfl, hfz, hnd⟩ := hW'
  have hV' : DataW.TrodVars enc C.prog W (fun _ => true) s.vars gs q := hV
  rw [hvars] at hV'
  obtain ⟨rfl, rfl⟩ := trodVars_none hV'
  simp only [List.append_nil] at hsz
  have hlen : ds.length = fn.params.toList.length := trod_lengths _ _ _ _ hA
  have hvt : (OpenSpec.ofChange s).bare.plain.varTypes C.prog = [] := by simp [OpenSpec.ofChange, OpenSpec.bare, DataSpec.varTypes, ChangeSpec.plain, hvars]
  rw [hvt, List.append_nil] at hsz
  have := core W base args.toList ds p (fun j t v h1 h2 => hval j t v (by simpa using h1) (by simpa using h2)) hA hsz hL
  rw [Array.toArray_toList] at this
  refine this.mono fun e W' ⟨he, hb⟩ => ⟨_, he, ?_⟩
  exact (law_post (s := s) hl hts hres hbool hvars hW (by rw [List.append_nil]; exact hargs ds hlen) hb)

/-- The same for the second row (bulk at most 1048576). -/
theorem law_liftD_upto {C : Checked} {os : Os} {f : FuncId} {fn : Func} {s : ChangeSpec} {H : Type} {enc : TypeId × Value → H} {tb : TypeId} {F : Stop.Interp} {laid : List (String × DataW Unit)} (started : os.Started)
    (own : ownKnob C.prog.godebug = none) (hl : laidOutB C.prog = true) (noInit : C.prog.inits.idxOf? f = none) (hfn : C.prog.funcs[f]? = some fn) (hts : rowed C.prog fn.params.toList = true) (hres : fn.resultTypes = #[tb]) (hbool : C.prog.underlying tb = some .bool) (hvars : s.vars = [])
    (hargs : ∀ ds : List (DataW H), ds.length = fn.params.toList.length → s.fn H ds = { results := [.lit (.bool true)], args := ds })
    (witness : ∃ (w : World) (tape : Tape) (i : Input), w.os = os ∧ (w.forCall tape i).Shaped C.prog ∧ i.vars = [] ∧ Input.okWide C.prog (w.forCall tape i) .any w.heap.size f i ∧
      (Rows.OpenSpec.upto s).preRow enc C.prog fn [] false laid (w.forCall tape i).memory i.args ∧ Assume.holds {} C.prog (lone (Frame.enter C.prog f i.args .normal) [] (w.forCall tape i)))
    (core : ∀ (W : World) (base : Nat) (vs : List Value) (ds : List (DataW H)) (ps : List MemPlace), (∀ (j : Nat) t v, fn.params.toList[j]? = some t → vs[j]? = some v → Value.okWide C.prog W .any base t v) →
      DataW.TrodAll enc C.prog W 0 (fun _ => true) true fn.params.toList vs ds ps → Rows.uptoBulkAll ds ≤ 1048576 → laidMetH C.prog laid W →
      Calls C.prog f vs.toArray W fun e W' => e = .returned (.bool true) ∧ Below W.heap.size W W') :
    ReturnsInHanded {} C os f .any ((Rows.OpenSpec.upto s).preRow enc C.prog fn [] false laid) (((Rows.OpenSpec.upto s).at F).post enc C.prog fn false true false false) := by
  refine returnsInHanded_of_row (C := C) (s := Rows.OpenSpec.upto s) own started noInit hfn witness ?_
  intro W base args ds gs before hval hW _ hk _ hL _ _
  have hW' : DataW.Whole enc C.prog fn.params.toList s.vars false W args.toList ds gs before := hW
  obtain ⟨p, q, hA, hV, rfl, hfz, hnd⟩ := hW'
  have hV' : DataW.TrodVars enc C.prog W (fun _ => true) s.vars gs q := hV
  rw [hvars] at hV'
  obtain ⟨rfl, rfl⟩ := trodVars_none hV'
  have hk2 := hk Rows.uptoSmall rfl
  simp only [List.append_nil] at hk2
  have hlen : ds.length = fn.params.toList.length := trod_lengths _ _ _ _ hA
  have := core W base args.toList ds p (fun j t v h1 h2 => hval j t v (by simpa using h1) (by simpa using h2)) hA (of_decide_eq_true hk2) hL
  rw [Array.toArray_toList] at this
  refine this.mono fun e W' ⟨he, hb⟩ => ⟨_, he, ?_⟩
  exact (law_post (s := s) hl hts hres hbool hvars hW (by rw [List.append_nil]; exact hargs ds hlen) hb)
end Go.Proofs.YtiecgbmeobpomaaDoor
