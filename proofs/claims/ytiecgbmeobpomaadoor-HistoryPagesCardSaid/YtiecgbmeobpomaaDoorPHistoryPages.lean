/-
  HistoryPages: the card.
-/
import Derived.Test.YtiecgbmeobpomaaDoorPHistoryPagesk
import Derived.Test.YtiecgbmeobpomaaDoorRows
import Derived.Test.YtiecgbmeobpomaaDoorPHistoryPagesf
import Derived.MakeChecks
import Derived.Test.YtiecgbmeobpomaaDoorPHistoryPagesa
import Derived.Deep.DeepHandedRow
import Derived.SevenTiedAt
import Derived.Lay
import Derived.LaidMore
import Derived.Stop.Joined
import Derived.Test.YtiecgbmeobpomaaDoorCards
import Derived.Test.YtiecgbmeobpomaaDoorTie
namespace Go.Proofs.YtiecgbmeobpomaaDoor
open Go.RowKit
set_option linter.unusedVariables false
set_option linter.unusedSimpArgs false

set_option maxHeartbeats 12800000 in
set_option maxRecDepth 100000 in
theorem historyPages_walk (w : World) (v : Value) (l : List OpR) (h : ArgRows w v 6 (l.map OpR.cells)) (hok : ∀ r ∈ l, OpOk w r) (hU : Lib.Utf8Tabs 0 1 w) :
    Calls Tryd.prog 5 #[v] w fun e w' => e = .returned (.bool true) ∧ Below w.heap.size w w' := by
  have HFIT := Lib.hid (fit_any w)
  have HFEW := Lib.hid (fun W hc => few_any w v l h hok W hc)
  obtain ⟨a, cap, rfl, hlc, hcm, -⟩ := id h
  have HA := Lib.hid h
  rw [List.length_map] at HA HFEW ⊢
  have HOK := Lib.hid hok
  have HU := Lib.hid hU
  have HFF := Lib.hid (fun (e : fewB l = true) => fewB_fit e hok)
  clear h hok hU hlc hcm
  generalize hfb : fewB l = fb at *
  cases fb with
  | false =>
    clear HFF hfb
    go_enter Tryd.func5, Tryd.ntmps5
    go_wp2_with (first
      | (go_at_call 11; refine HFIT.out.mono ?_; rintro _ w1 ⟨rfl, hc1⟩; have HC1 := Lib.hid hc1; clear hc1)
      | (go_at_call 12; refine (HFEW.out _ HC1.out).mono ?_; rintro _ w2 ⟨rfl, hc2⟩; have HC2 := Lib.hid hc2; clear hc2))
    go_ret
    exact ⟨rfl, (HC1.out.trans' HC2.out).below (Nat.le_refl _) (fun k x => x.elim)⟩
  | true =>
    obtain ⟨hl60, hff⟩ := HFF.out rfl
    have HL60 := Lib.hid hl60
    have HFT := Lib.hid hff
    have hll : (l.length : Int) ≤ 60 := by omega
    clear HFF hfb hl60 hff
    go_enter Tryd.func5, Tryd.ntmps5
    go_upto_region 5 with (first
      | (go_at_call 11; refine HFIT.out.mono ?_; rintro _ w1 ⟨rfl, hc1⟩; have HC1 := Lib.hid hc1; clear hc1)
      | (go_at_call 12; refine (HFEW.out _ HC1.out).mono ?_; rintro _ w2 ⟨rfl, hc2⟩; have HC2 := Lib.hid hc2; clear hc2))
    have HNEW := Lib.hid (new_any w2 ⟨#[]⟩)
    go_upto_region 6 with (go_at_call 13; refine HNEW.out.mono ?_; rintro _ w3 ⟨vl, rfl, hc3, hr3, ho3⟩; obtain ⟨al, cl, rfl, -, -⟩ := hr3.slice)
    have hca := Chg.alloc (fun _ => False) w3 (.cells #[.slice al 1 cl, .int .i64 0, .int .i64 2, .int .i64 2, .slice none 0 0] 28)
    have hb1 := alloc_block w3 (.cells #[.slice al 1 cl, .int .i64 0, .int .i64 2, .int .i64 2, .slice none 0 0] 28)
    have hc0 := (HC1.out.trans' HC2.out).trans' hc3
    have h4 := newHi (w0 := ⟨w, fun _ => False⟩) (url := ⟨#[]⟩) hb1 (hr3.chg hca (fun _ _ x => x)) (hc0.trans' hca) (fun k hk => ⟨Nat.le_trans (HC1.out.trans' HC2.out).size (ho3 k hk), by have := hr3.lt k hk; omega⟩) hc0.size (fun k x => x.elim)
    have HH0 : Hid (PgI w ((w3.alloc (.cells #[.slice al 1 cl, .int .i64 0, .int .i64 2, .int .i64 2, .slice none 0 0] 28)).alloc (.cells #[.int .i64 0, .int .i64 1] 3)) w3.heap.size (histK ⟨#[]⟩ l 0) (.slice (some ⟨(w3.alloc (.cells #[.slice al 1 cl, .int .i64 0, .int .i64 2, .int .i64 2, .slice none 0 0] 28)).heap.size, 0, none⟩) 2 2) [0, 1] ∧ StOk (histK ⟨#[]⟩ l 0) [0, 1]) := Lib.hid ⟨pg_new h4, StOk.new _⟩
    rw [World.size_alloc] at HH0
    clear hca hb1 hc0 h4 hc3 hr3 ho3 HFIT HFEW HNEW
    go_upto_region 7 with fail
    generalize (w3.alloc (.cells #[.slice al 1 cl, .int .i64 0, .int .i64 2, .int .i64 2, .slice none 0 0] 28)).alloc (.cells #[.int .i64 0, .int .i64 1] 3) = w4 at *
    generalize w3.heap.size + 1 = b8 at *
    generalize w3.heap.size = b7 at *
    go_wp2_with fail
    go_loopw [2, 4, 28] (fun _ u4 i wr => ∃ (k : Nat) (st : List Int), k ≤ l.length ∧ i = .int .i64 k ∧ Hid (PgI w wr b7 (histK ⟨#[]⟩ l k) u4 st ∧ StOk (histK ⟨#[]⟩ l k) st)) (fun _ _ i _ => l.length - (intOf i).toNat)
    case atStart => exact ⟨0, _, Nat.zero_le _, rfl, HH0⟩
    case round =>
      obtain ⟨k, st, hk, rfl, HX⟩ := hrel
      by_cases hlt : k < l.length
      · have k0 : (0 : Int) ≤ (k : Int) := by omega
        have k1 : (k : Int) < (l.length : Int) := by omega
        have w64 : IntKind.i64.wrap ((k : Int) + 1) = ((k + 1 : Nat) : Int) := IntWalk.i64_in _ (by omega)
        obtain ⟨I, S⟩ := HX.out
        obtain ⟨HO, HP⟩ := histK_ok (url := ⟨#[]⟩) HL60.out HFT.out k
        obtain ⟨HO1, -⟩ := histK_ok (url := ⟨#[]⟩) HL60.out HFT.out (k + 1)
        have hold := HP.old _ (curE_mem _ HO.ok)
        have hsl := S.len
        have hpg := HO.page
        obtain ⟨on, hon⟩ := Int.eq_ofNat_of_zero_le (show 0 ≤ (curE (histK ⟨#[]⟩ l k)).page by omega)
        obtain ⟨ga, oa, ca, rfl⟩ := I.at_ (by omega)
        obtain ⟨g, off, rfl, -, hcel⟩ := opCell HA.out I.chg hlt
        have e0 := hcel 0 _ rfl
        have e1 := hcel 1 _ rfl
        have e2 := hcel 2 _ rfl
        have e3 := hcel 3 _ rfl
        have e4 := hcel 4 _ rfl
        have e5 := hcel 5 _ rfl
        rw [Nat.add_zero] at e0
        have hst := I.still (Chg.alloc (fun _ => False) wr (.cells l[k].cells.toArray 38))
        have hcu := pg_cur hst hon
        have hdo := fun W (hc : Chg (fun _ => False) (wr.alloc (.cells l[k].cells.toArray 38)) W) => pg_do HOK.out HU.out HL60.out HFT.out hlt I _ hc
        have hstep := st_step HO HP S allowedB l[k].o
        rw [← histK_succ hlt] at hstep
        have hopk := HOK.out _ (List.getElem_mem hlt)
        have hkd : l[k].o.kind < 256 := hopk.kind
        have hdl := hopk.delta
        have HNX : Hid (k + 1 ≤ l.length) := Lib.hid hlt
        have HST : Hid (st.length ≤ 810 ∧ 2 ≤ st.length ∧ 1 ≤ on ∧ on < st.length) := Lib.hid (by omega)
        have HO1 := Lib.hid HO1
        have hb0 := alloc_block wr (.cells l[k].cells.toArray 38)
        unfold OpR.cells at hdo hst hcu hb0
        have HB0 := Lib.hid hb0
        clear hb0
        have HDO := Lib.hid hdo
        have HCU := Lib.hid hcu
        have HON := Lib.hid hon
        clear hcel I S HO HP hold hsl hpg hon hst hcu hdo HX hk hopk
        generalize doE allowedB (histK ⟨#[]⟩ l k) l[k].o = E at *
        generalize doV allowedB (histK ⟨#[]⟩ l k) l[k].o = M at *
        generalize hh1 : histK ⟨#[]⟩ l (k + 1) = h' at *
        have HH1 := Lib.hid hh1
        clear hh1
        generalize histK ⟨#[]⟩ l k = h at *
        generalize l[k] = r at *
        clear hlt
        rcases hstep with ⟨hE, hS⟩ | hstep
        · have z1 : (E == 0) = false := by simp [hE]
          have HS := Lib.hid hS
          clear hS hE
          go_wp2_with (first
              | (go_at_call 19; refine HCU.out.mono ?_; rintro _ w6 ⟨p0, q0, r0, p1, q1, r1, rfl, hc6⟩; have hpg := run_page (curE h).id (on : Int) (curE h).x (curE h).y (curE h).url (curE h).title p0 p1 q0 r0 q1 r1 w6; have HC6 := Lib.hid hc6; have hb6 := hc6.keep HB0.out (fun x => x); have d0 := cell_of_block (i := 0) hb6 rfl; have d1 := cell_of_block (i := 1) hb6 rfl; have d2 := cell_of_block (i := 2) hb6 rfl; have d3 := cell_of_block (i := 3) hb6 rfl; have d4 := cell_of_block (i := 4) hb6 rfl; have d5 := cell_of_block (i := 5) hb6 rfl; simp only [List.getElem_toArray, List.getElem_cons_zero, List.getElem_cons_succ] at d0 d1 d2 d3 d4 d5; clear hc6 hb6)
              | (go_at_call 15; refine (HDO.out _ HC6.out).mono ?_; rintro _ w7 ⟨zv, rfl, hI7, hbo7, a0, n0, c0, a1, n1, c1, ac, cc, rfl, hrow7, hown7⟩; have HI7 := Lib.hid hI7; have HBO7 := Lib.hid hbo7; have HROW7 := Lib.hid hrow7; have HOWN7 := Lib.hid hown7; have f0 := cell_of_block (i := 0) (alloc_old (.cells #[.int .i64 M.entry.id, .int .i64 M.entry.page, .string M.entry.url, .string M.entry.title, .slice a0 n0 c0, .slice a1 n1 c1, .int .i64 M.entry.x, .int .i64 M.entry.y, .int .i64 M.page, .bool M.awake, .bool M.sleeps, .slice ac M.closed.length cc] 40) hbo7) rfl; simp only [List.getElem_toArray, List.getElem_cons_zero, List.getElem_cons_succ] at f0; clear hI7 hrow7 hown7 hbo7 hpg d0 d1 d2 d3 d4 d5; unfold MvC))
          go_roundw
          case rel => exact ⟨k + 1, st, HNX.out, rfl, Lib.hid (by rw [HH1.out]; exact ⟨HI7.out.still (Chg.alloc _ _ _), HS.out⟩)⟩
          case measure => have := HNX.out; simp [intOf, w64]; omega
        · have hE : E = 0 := by
            rcases hstep with x | x | x
            · exact x.1
            · exact x.1
            · exact x.1
          subst hE
          have HSTEP := Lib.hid hstep
          have hk0 : (0 : Int) ≤ (r.o.kind : Int) := Int.natCast_nonneg _
          have wk : IntKind.i64.wrap (r.o.kind : Int) = (r.o.kind : Int) := IntWalk.i64_in _ (by omega)
          have wkt : (r.o.kind : Int).tmod 7 = (r.o.kind : Int) % 7 := Int.tmod_eq_emod_of_nonneg hk0
          have HKD := Lib.hid hkd
          have HDL := Lib.hid hdl
          clear hstep hkd hdl
          go_upto_block 2 with (first
              | (go_at_call 19; refine HCU.out.mono ?_; rintro _ w6 ⟨p0, q0, r0, p1, q1, r1, rfl, hc6⟩; have hpg := run_page (curE h).id (on : Int) (curE h).x (curE h).y (curE h).url (curE h).title p0 p1 q0 r0 q1 r1 w6; have HC6 := Lib.hid hc6; have hb6 := hc6.keep HB0.out (fun x => x); have d0 := cell_of_block (i := 0) hb6 rfl; have d1 := cell_of_block (i := 1) hb6 rfl; have d2 := cell_of_block (i := 2) hb6 rfl; have d3 := cell_of_block (i := 3) hb6 rfl; have d4 := cell_of_block (i := 4) hb6 rfl; have d5 := cell_of_block (i := 5) hb6 rfl; simp only [List.getElem_toArray, List.getElem_cons_zero, List.getElem_cons_succ] at d0 d1 d2 d3 d4 d5; clear hc6 hb6)
              | (go_at_call 15; refine (HDO.out _ HC6.out).mono ?_; rintro _ w7 ⟨zv, rfl, hI7, hbo7, a0, n0, c0, a1, n1, c1, ac, cc, rfl, hrow7, hown7⟩; have HI7 := Lib.hid hI7; have HBO7 := Lib.hid hbo7; have HROW7 := Lib.hid hrow7; have HOWN7 := Lib.hid hown7; have f0 := cell_of_block (i := 0) (alloc_old (.cells #[.int .i64 M.entry.id, .int .i64 M.entry.page, .string M.entry.url, .string M.entry.title, .slice a0 n0 c0, .slice a1 n1 c1, .int .i64 M.entry.x, .int .i64 M.entry.y, .int .i64 M.page, .bool M.awake, .bool M.sleeps, .slice ac M.closed.length cc] 40) hbo7) rfl; simp only [List.getElem_toArray, List.getElem_cons_zero, List.getElem_cons_succ] at f0; clear hI7 hrow7 hown7 hbo7 hpg d0 d1 d2 d3 d4 d5; unfold MvC))
          have hM := PgM.new HI7.out HROW7.out HOWN7.out #[.int .i64 M.entry.id, .int .i64 M.entry.page, .string M.entry.url, .string M.entry.title, .slice a0 n0 c0, .slice a1 n1 c1, .int .i64 M.entry.x, .int .i64 M.entry.y, .int .i64 M.page, .bool M.awake, .bool M.sleeps, .slice ac M.closed.length cc]
          generalize hw8 : w7.alloc (.cells #[.int .i64 M.entry.id, .int .i64 M.entry.page, .string M.entry.url, .string M.entry.title, .slice a0 n0 c0, .slice a1 n1 c1, .int .i64 M.entry.x, .int .i64 M.entry.y, .int .i64 M.page, .bool M.awake, .bool M.sleeps, .slice ac M.closed.length cc] 40) = w8 at *
          generalize hbm : w7.heap.size = bm at *
          generalize wr.heap.size = bo at *
          have HPM := Lib.hid hM
          have HBO8 : Hid (w8.heap[bo]? = some (.cells [.int .u8 (r.o.kind : Int), .string r.o.url, .bool r.o.keep, .int .i8 r.o.delta, .slice r.sn r.nn r.cn, .slice r.sp r.np r.cp].toArray 38 (0, 0))) := Lib.hid (by rw [← hw8]; exact alloc_old _ HBO7.out)
          clear hw8 hbm hM f0 e0 e1 e2 e3 e4 e5 wk wkt hk0 HB0
          clear HI7 HBO7 HROW7 HOWN7 HC6 HDO HCU
          go_cut [2, 4, 11, 12, 13, 14] from 46 to 177 (fun _ u4' _ _ _ _ wx => ∃ gz oz cz st', u4' = .slice (some ⟨gz, oz, none⟩) st'.length cz ∧ Hid (PgI w wx b7 h' (.slice (some ⟨gz, oz, none⟩) st'.length cz) st' ∧ StOk h' st'))
          case first =>
            generalize hrr : (r.o.kind : Int) % 7 = rr at *
            have HRR := Lib.hid hrr
            clear hrr
            rcases HSTEP.out with ⟨-, hkd, X⟩ | ⟨-, hkd, hd1, hd2, hd3, hS⟩ | ⟨-, hkd, hS⟩
            · as_aux_lemma =>
                have hrv : rr = 0 ∨ rr = 1 ∨ rr = 3 := by have := HRR.out; omega
                obtain ⟨pn, hpn⟩ := Int.eq_ofNat_of_zero_le (show 0 ≤ M.page by have := X.page; omega)
                have hpq : 1 ≤ pn ∧ pn ≤ st.length := by have := X.page; omega
                have hcur : (curE h').page = (pn : Int) := by rw [← hpn]; exact X.page.2.2.symm
                have HPQ := Lib.hid hpq
                have HPN := Lib.hid hpn
                have HX := Lib.hid X
                have HCU8 := Lib.hid (fun W (hc : Chg (fun _ => False) w8 W) => pg_cur (HPM.out.I.still hc) hcur)
                have HS18 : Hid (w8.cell? ⟨bm, 8, none⟩ = some (.int .i64 (pn : Int))) := Lib.hid (by rw [← hpn]; exact cell_of_block (i := 8) HPM.out.blk rfl)
                have p1 : ¬ (pn : Int) < 1 := by omega
                have p2 : ¬ (st.length : Int) < (pn : Int) := by omega
                clear X hpn hcur hpq hkd HSTEP
                go_upto_if 46 with fail
                go_cut [46] from 46 to 49 (fun u46 wx => u46 = .bool true ∧ w8 = wx)
                case first =>
                  as_aux_lemma =>
                    rcases hrv with rfl | rfl | rfl
                    all_goals (
                      go_wp2_with fail
                      go_meet
                      exact ⟨rfl, rfl⟩)
                case rest =>
                  as_aux_lemma =>
                    obtain ⟨rfl, rfl⟩ := hcut
                    clear hrv
                    go_upto_region 18 with fail
                    refine wp_region_held_split 16 (fun w' => w'.cell? ⟨bm, 8, none⟩ = some (.int .i64 (pn : Int))) (by kernel_rfl) (by kernel_rfl) ?_ (fun hHeld => ?_)
                    · (first | exact HS18.out | exact HKS.out _ (Chg.refl _ _) | exact zc)
                    simp only [List.take_succ_cons, List.take_zero]
                    have HKS : Hid (∀ W, Chg (fun _ => False) w8.drew W → W.cell? ⟨bm, 8, none⟩ = some (.int .i64 (pn : Int))) := Lib.hid (fun W hc => hc.cell HS18.out)
                    have HWD : Hid (Chg (fun _ => False) w8 w8.drew) := Lib.hid (Chg.refl _ w8).drewR
                    generalize w8.drew = wD at *
                    refine wpAnyH_take (i := 0) (v := ?_) rfl (by kernel_rfl) (by kernel_rfl) (by kernel_rfl) (fun _ _ _ h => h) (Or.inl ⟨by rfl, ?_⟩) (by assumption) ?_
                    rotate_left
                    · (intro wq hSw; (try dsimp only at hSw); go_simp; (try with_reducible rfl))
                    simp only [Act.put, List.getElem_toArray, List.getElem_cons_zero, List.getElem_cons_succ, List.setIfInBounds_toArray, List.set_cons_zero, List.set_cons_succ]
                    refine wpAnyH_take (i := 1) (v := ?_) rfl (by kernel_rfl) (by kernel_rfl) (by kernel_rfl) (fun _ _ _ h => h) (Or.inl ⟨by rfl, ?_⟩) (by assumption) ?_
                    rotate_left
                    · (intro wq hSw; (try dsimp only at hSw); go_simp; (try with_reducible rfl))
                    simp only [Act.put, List.getElem_toArray, List.getElem_cons_zero, List.getElem_cons_succ, List.setIfInBounds_toArray, List.set_cons_zero, List.set_cons_succ]
                    refine wpAnyH_take (i := 2) (v := ?_) rfl (by kernel_rfl) (by kernel_rfl) (by kernel_rfl) (fun _ _ _ h => h) (Or.inl ⟨by rfl, ?_⟩) (by assumption) ?_
                    rotate_left
                    · (intro wq hSw; (try dsimp only at hSw); go_simp; (try with_reducible rfl))
                    simp only [Act.put, List.getElem_toArray, List.getElem_cons_zero, List.getElem_cons_succ, List.setIfInBounds_toArray, List.set_cons_zero, List.set_cons_succ]
                    refine wpAnyH_take (i := 3) (v := ?_) rfl (by kernel_rfl) (by kernel_rfl) (by kernel_rfl) (fun _ _ _ h => h) (Or.inl ⟨by rfl, ?_⟩) (by assumption) ?_
                    rotate_left
                    · (intro wq hSw; (try dsimp only at hSw); go_simp; (try with_reducible rfl))
                    simp only [Act.put, List.getElem_toArray, List.getElem_cons_zero, List.getElem_cons_succ, List.setIfInBounds_toArray, List.set_cons_zero, List.set_cons_succ]
                    first
                    | (refine wpAnyH_take (i := 4) (v := undef) rfl (by kernel_rfl) (by kernel_rfl) (by kernel_rfl) (fun _ _ _ h => h) (Or.inr ⟨by rfl, rfl⟩) (by assumption) ?_)
                    | (refine wpAnyH_take (i := 4) (v := ?_) rfl (by kernel_rfl) (by kernel_rfl) (by kernel_rfl) (fun _ _ _ h => h) (Or.inl ⟨by rfl, ?_⟩) (by assumption) ?_; rotate_left; (focus (intro wq hSw; (try dsimp only at hSw); go_simp; (try with_reducible rfl))))
                    simp only [Act.put, List.getElem_toArray, List.getElem_cons_zero, List.getElem_cons_succ, List.setIfInBounds_toArray, List.set_cons_zero, List.set_cons_succ]
                    first
                    | (refine wpAnyH_take (i := 5) (v := undef) rfl (by kernel_rfl) (by kernel_rfl) (by kernel_rfl) (fun _ _ _ h => h) (Or.inr ⟨by rfl, rfl⟩) (by assumption) ?_)
                    | (refine wpAnyH_take (i := 5) (v := ?_) rfl (by kernel_rfl) (by kernel_rfl) (by kernel_rfl) (fun _ _ _ h => h) (Or.inl ⟨by rfl, ?_⟩) (by assumption) ?_; rotate_left; (focus (intro wq hSw; (try dsimp only at hSw); go_simp; (try with_reducible rfl))))
                    simp only [Act.put, List.getElem_toArray, List.getElem_cons_zero, List.getElem_cons_succ, List.setIfInBounds_toArray, List.set_cons_zero, List.set_cons_succ]
                    first
                    | (refine wpAnyH_take (i := 6) (v := undef) rfl (by kernel_rfl) (by kernel_rfl) (by kernel_rfl) (fun _ _ _ h => h) (Or.inr ⟨by rfl, rfl⟩) (by assumption) ?_)
                    | (refine wpAnyH_take (i := 6) (v := ?_) rfl (by kernel_rfl) (by kernel_rfl) (by kernel_rfl) (fun _ _ _ h => h) (Or.inl ⟨by rfl, ?_⟩) (by assumption) ?_; rotate_left; (focus (intro wq hSw; (try dsimp only at hSw); go_simp; (try with_reducible rfl))))
                    simp only [Act.put, List.getElem_toArray, List.getElem_cons_zero, List.getElem_cons_succ, List.setIfInBounds_toArray, List.set_cons_zero, List.set_cons_succ]
                    first
                    | (refine wpAnyH_take (i := 7) (v := undef) rfl (by kernel_rfl) (by kernel_rfl) (by kernel_rfl) (fun _ _ _ h => h) (Or.inr ⟨by rfl, rfl⟩) (by assumption) ?_)
                    | (refine wpAnyH_take (i := 7) (v := ?_) rfl (by kernel_rfl) (by kernel_rfl) (by kernel_rfl) (fun _ _ _ h => h) (Or.inl ⟨by rfl, ?_⟩) (by assumption) ?_; rotate_left; (focus (intro wq hSw; (try dsimp only at hSw); go_simp; (try with_reducible rfl))))
                    simp only [Act.put, List.getElem_toArray, List.getElem_cons_zero, List.getElem_cons_succ, List.setIfInBounds_toArray, List.set_cons_zero, List.set_cons_succ]
                    first
                    | (refine wpAnyH_take (i := 8) (v := undef) rfl (by kernel_rfl) (by kernel_rfl) (by kernel_rfl) (fun _ _ _ h => h) (Or.inr ⟨by rfl, rfl⟩) (by assumption) ?_)
                    | (refine wpAnyH_take (i := 8) (v := ?_) rfl (by kernel_rfl) (by kernel_rfl) (by kernel_rfl) (fun _ _ _ h => h) (Or.inl ⟨by rfl, ?_⟩) (by assumption) ?_; rotate_left; (focus (intro wq hSw; (try dsimp only at hSw); go_simp; (try with_reducible rfl))))
                    simp only [Act.put, List.getElem_toArray, List.getElem_cons_zero, List.getElem_cons_succ, List.setIfInBounds_toArray, List.set_cons_zero, List.set_cons_succ]
                    refine wpAnyH_take (i := 9) (v := ?_) rfl (by kernel_rfl) (by kernel_rfl) (by kernel_rfl) (fun _ _ _ h => h) (Or.inl ⟨by rfl, ?_⟩) (by assumption) ?_
                    rotate_left
                    · (intro wq hSw; (try dsimp only at hSw); go_simp; (try with_reducible rfl))
                    simp only [Act.put, List.getElem_toArray, List.getElem_cons_zero, List.getElem_cons_succ, List.setIfInBounds_toArray, List.set_cons_zero, List.set_cons_succ]
                    refine wpAnyH_take (i := 10) (v := ?_) rfl (by kernel_rfl) (by kernel_rfl) (by kernel_rfl) (fun _ _ _ h => h) (Or.inl ⟨by rfl, ?_⟩) (by assumption) ?_
                    rotate_left
                    · (intro wq hSw; (try dsimp only at hSw); go_simp; (try with_reducible rfl))
                    simp only [Act.put, List.getElem_toArray, List.getElem_cons_zero, List.getElem_cons_succ, List.setIfInBounds_toArray, List.set_cons_zero, List.set_cons_succ]
                    first
                    | (refine wpAnyH_take (i := 11) (v := undef) rfl (by kernel_rfl) (by kernel_rfl) (by kernel_rfl) (fun _ _ _ h => h) (Or.inr ⟨by rfl, rfl⟩) (by assumption) ?_)
                    | (refine wpAnyH_take (i := 11) (v := ?_) rfl (by kernel_rfl) (by kernel_rfl) (by kernel_rfl) (fun _ _ _ h => h) (Or.inl ⟨by rfl, ?_⟩) (by assumption) ?_; rotate_left; (focus (intro wq hSw; (try dsimp only at hSw); go_simp; (try with_reducible rfl))))
                    simp only [Act.put, List.getElem_toArray, List.getElem_cons_zero, List.getElem_cons_succ, List.setIfInBounds_toArray, List.set_cons_zero, List.set_cons_succ]
                    first
                    | (refine wpAnyH_take (i := 12) (v := undef) rfl (by kernel_rfl) (by kernel_rfl) (by kernel_rfl) (fun _ _ _ h => h) (Or.inr ⟨by rfl, rfl⟩) (by assumption) ?_)
                    | (refine wpAnyH_take (i := 12) (v := ?_) rfl (by kernel_rfl) (by kernel_rfl) (by kernel_rfl) (fun _ _ _ h => h) (Or.inl ⟨by rfl, ?_⟩) (by assumption) ?_; rotate_left; (focus (intro wq hSw; (try dsimp only at hSw); go_simp; (try with_reducible rfl))))
                    simp only [Act.put, List.getElem_toArray, List.getElem_cons_zero, List.getElem_cons_succ, List.setIfInBounds_toArray, List.set_cons_zero, List.set_cons_succ]
                    refine wpAnyH_ready (rs := [13]) (by kernel_rfl) (by simp) ?_
                    refine AllReadyH.cons (by simp only [List.getElem?_toArray, List.getElem?_cons_succ, List.getElem?_cons_zero]; rfl) (fun K hK => ?_) AllReadyH.nil
                    (go_simp; go_at_call 19; refine (HCU8.out _ HWD.out).mono ?_; rintro _ w9 ⟨p0, q0, r0, p1, q1, r1, rfl, hc9⟩; have hpg9 := fun W => run_page (curE h').id (pn : Int) (curE h').x (curE h').y (curE h').url (curE h').title p0 p1 q0 r0 q1 r1 W; have HC9 := Lib.hid (HWD.out.trans' hc9); have zc := HKS.out _ hc9; clear hc9; go_simp)
                    refine hK.out _ _ ?_ (fun hHeld => ?_)
                    · (first | exact HS18.out | exact HKS.out _ (Chg.refl _ _) | exact zc)
                    clear hK K
                    (try simp only [Act.put, List.getElem_toArray, List.getElem_cons_zero, List.getElem_cons_succ, List.setIfInBounds_toArray, List.set_cons_zero, List.set_cons_succ])
                    first
                    | (refine wpAnyH_take (i := 14) (v := undef) rfl (by kernel_rfl) (by kernel_rfl) (by kernel_rfl) (fun _ _ _ h => h) (Or.inr ⟨by rfl, rfl⟩) (by assumption) ?_)
                    | (refine wpAnyH_take (i := 14) (v := ?_) rfl (by kernel_rfl) (by kernel_rfl) (by kernel_rfl) (fun _ _ _ h => h) (Or.inl ⟨by rfl, ?_⟩) (by assumption) ?_; rotate_left; (focus (intro wq hSw; (try dsimp only at hSw); go_simp; (try with_reducible rfl))))
                    simp only [Act.put, List.getElem_toArray, List.getElem_cons_zero, List.getElem_cons_succ, List.setIfInBounds_toArray, List.set_cons_zero, List.set_cons_succ]
                    first
                    | (refine wpAnyH_take (i := 15) (v := undef) rfl (by kernel_rfl) (by kernel_rfl) (by kernel_rfl) (fun _ _ _ h => h) (Or.inr ⟨by rfl, rfl⟩) (by assumption) ?_)
                    | (refine wpAnyH_take (i := 15) (v := ?_) rfl (by kernel_rfl) (by kernel_rfl) (by kernel_rfl) (fun _ _ _ h => h) (Or.inl ⟨by rfl, ?_⟩) (by assumption) ?_; rotate_left; (focus (intro wq hSw; (try dsimp only at hSw); go_simp; (try with_reducible rfl))))
                    simp only [Act.put, List.getElem_toArray, List.getElem_cons_zero, List.getElem_cons_succ, List.setIfInBounds_toArray, List.set_cons_zero, List.set_cons_succ]
                    refine wpAnyH_done (by kernel_rfl) ?_ _
                    change wpList _ _ _ _ _ _
                    simp only [List.drop_succ_cons, List.drop_zero]
                    go_upto_region 20 with fail
                    have HPM9 := Lib.hid (HPM.out.still HC9.out)
                    have c8 := HC9.out.cell HS18.out
                    clear HKS zc hpg9 HWD
                    go_upto_if 71 with fail
                    clear c8
                    go_cut [4] from 71 to 74 (fun u4' wx => ∃ gg og cg, u4' = .slice (some ⟨gg, og, none⟩) (stGrow st M).length cg ∧ Hid (PgM w wx b7 h' (.slice (some ⟨gg, og, none⟩) (stGrow st M).length cg) (stGrow st M) bm #[.int .i64 M.entry.id, .int .i64 M.entry.page, .string M.entry.url, .string M.entry.title, .slice a0 n0 c0, .slice a1 n1 c1, .int .i64 M.entry.x, .int .i64 M.entry.y, .int .i64 M.page, .bool M.awake, .bool M.sleeps, .slice ac M.closed.length cc] (.slice ac M.closed.length cc) M.closed))
                    case first =>
                      as_aux_lemma =>
                        by_cases hpl : pn = st.length
                        · have z : ((pn : Int) == (st.length : Int)) = true := by simp [hpl]
                          have HGR : Hid (stGrow st M = st ++ [0]) := Lib.hid (by unfold stGrow; rw [if_pos (by rw [HPN.out]; omega)])
                          clear hpl
                          go_wp2_with (at_builtin; refine wpList_outR rfl (.tmp 72) (.tmp 73) rfl _ st rfl (HPM9.out.I.row.alloc _) _ [0] rfl (RowAt.lit [.int .i64 0] rfl (by simp [maxLen])) (⟨by have := HST.out; simp only [List.length_cons, List.length_nil]; omega⟩ : Few _) ?_; intro a2 n2 c2 w10 hrow10 hchg10 hold10; obtain ⟨_, _, hx2, -, -⟩ := hrow10.slice; simp only [Value.slice.injEq] at hx2; obtain ⟨rfl, rfl, rfl⟩ := hx2)
                          have hm10 := HPM9.out.more ((Chg.alloc (fun _ => False) w9 _).trans hchg10 (fun _ _ x => x.elim) (fun _ _ x => x)) hrow10 (fun k hk => by
                            rcases hold10 k hk with x | x
                            · exact .inl x
                            · exact .inr (by rw [World.size_alloc] at x; omega))
                          obtain ⟨gg, og, cg, hv⟩ := hm10.I.at_ (by rw [List.length_append]; simp)
                          rw [hv] at hm10
                          go_meet
                          refine ⟨gg, og, cg, ?_, Lib.hid ?_⟩
                          · rw [HGR.out]; simpa using hv
                          · rw [HGR.out]; exact hm10
                        · have z : ((pn : Int) == (st.length : Int)) = false := by simp; omega
                          have HGR : Hid (stGrow st M = st) := Lib.hid (by unfold stGrow; rw [if_neg (by rw [HPN.out]; omega)])
                          clear hpl
                          go_wp2_with fail
                          go_meet
                          refine ⟨ga, oa, ca, ?_, Lib.hid ?_⟩
                          · rw [HGR.out]
                          · rw [HGR.out]; exact HPM9.out
                    case rest =>
                      as_aux_lemma =>
                        obtain ⟨gg, og, cg, rfl, HPMA⟩ := hcut
                        clear HPM9 HPM HC9 HS18 HCU8
                        have X := HX.out
                        have hgl := stGrow_length st M
                        have hpq := HPQ.out
                        have hst := HST.out
                        have hpl : pn < (stGrow st M).length ∧ on < (stGrow st M).length := by
                          refine ⟨?_, by omega⟩
                          by_cases e : M.page = st.length
                          · have := hgl.2.1 e; omega
                          · have := HPN.out; omega
                        have hwake := X.wake
                        rw [HPN.out] at hwake
                        have HSLP : Hid (M.page = (on : Int) → M.sleeps = false) := Lib.hid (by rw [← HON.out]; exact X.sleeps)
                        have HMV : Hid (stMove st (on : Int) M = (stLeft (stGrow st M) (on : Int) M).set pn 1) := Lib.hid (by unfold stMove; rw [HPN.out, pgSet_nat])
                        obtain ⟨ce, cf⟩ := HPMA.out.I.cell pn hpl.1
                        generalize stGrow st M = st1 at *
                        have q0 : (0 : Int) ≤ (pn : Int) := by omega
                        have q1 : (pn : Int) < (st1.length : Int) := by omega
                        have r0 : (0 : Int) ≤ (on : Int) := by omega
                        have r1 : (on : Int) < (st1.length : Int) := by omega
                        have HPL := Lib.hid hpl
                        generalize pgAt st1 (pn : Int) = x at *
                        have c8 : wc.cell? ⟨bm, 8, none⟩ = some (.int .i64 (pn : Int)) := by rw [← HPN.out]; exact cell_of_block (i := 8) HPMA.out.blk rfl
                        have c9 : wc.cell? ⟨bm, 9, none⟩ = some (.bool M.awake) := cell_of_block (i := 9) HPMA.out.blk rfl
                        have HWK := Lib.hid hwake
                        clear X hgl hpq hst hpl hwake cf
                        go_upto_region 23 with fail
                        go_cut [88] from 80 to 88 (fun u88 wx => u88 = .bool false ∧ wc = wx)
                        case first =>
                          as_aux_lemma =>
                            by_cases x1 : x = 1
                            · have ha : M.awake = true := HWK.out.2 (.inl x1)
                              rw [ha] at c9
                              subst x1
                              have HAW := Lib.hid ha
                              clear ha
                              go_wp2_with fail
                              go_meet
                              exact ⟨rfl, rfl⟩
                            · by_cases x2 : x = 2
                              · have ha : M.awake = true := HWK.out.2 (.inr x2)
                                rw [ha] at c9
                                subst x2
                                have HAW := Lib.hid ha
                                clear ha x1
                                go_wp2_with fail
                                go_meet
                                exact ⟨rfl, rfl⟩
                              · have ha : M.awake = false := by
                                  cases hb : M.awake with
                                  | false => rfl
                                  | true => exact (HWK.out.1 hb).elim (fun e => (x1 e).elim) (fun e => (x2 e).elim)
                                rw [ha] at c9
                                have z1 : (x == 1) = false := by simpa using x1
                                have z2 : (x == 2) = false := by simpa using x2
                                have HAW := Lib.hid ha
                                clear ha x1 x2
                                go_wp2_with fail
                                go_meet
                                exact ⟨rfl, rfl⟩
                        case rest =>
                          as_aux_lemma =>
                            obtain ⟨rfl, rfl⟩ := hcut
                            clear c9 ce HWK
                            go_upto_if 92 with fail
                            clear c8
                            go_cut [] from 92 to 102 (fun wx => Hid (PgM w wx b7 h' (.slice (some ⟨gg, og, none⟩) st1.length cg) (stLeft st1 (on : Int) M) bm #[.int .i64 M.entry.id, .int .i64 M.entry.page, .string M.entry.url, .string M.entry.title, .slice a0 n0 c0, .slice a1 n1 c1, .int .i64 M.entry.x, .int .i64 M.entry.y, .int .i64 M.page, .bool M.awake, .bool M.sleeps, .slice ac M.closed.length cc] (.slice ac M.closed.length cc) M.closed))
                            case first =>
                              as_aux_lemma =>
                                by_cases hpo : pn = on
                                · have z : ((pn : Int) != (on : Int)) = false := by simp [hpo]
                                  have hs : M.sleeps = false := HSLP.out (by rw [HPN.out, hpo])
                                  have c10 : wc.cell? ⟨bm, 10, none⟩ = some (.bool M.sleeps) := cell_of_block (i := 10) HPMA.out.blk rfl
                                  rw [hs] at c10
                                  have HLF : Hid (stLeft st1 (on : Int) M = st1) := Lib.hid (by unfold stLeft; rw [if_pos (by rw [HPN.out, hpo])])
                                  clear hpo hs
                                  go_wp2_with fail
                                  go_meet
                                  exact Lib.hid (by rw [HLF.out]; exact HPMA.out)
                                · have z : ((pn : Int) != (on : Int)) = true := by simp; omega
                                  have HLF : Hid (stLeft st1 (on : Int) M = st1.set on (if M.sleeps = true then 2 else 0)) := Lib.hid (by unfold stLeft; rw [if_neg (by rw [HPN.out]; omega), pgSet_nat])
                                  obtain ⟨co, fo⟩ := HPMA.out.I.cell on HPL.out.2
                                  clear hpo
                                  go_upto_region 27 with fail
                                  have hp1 := HPMA.out.put on HPL.out.2 0
                                  clear co fo
                                  generalize wc.setCell ⟨gg, og + on, none⟩ (.int .i64 0) = wd at *
                                  have c10 : wd.cell? ⟨bm, 10, none⟩ = some (.bool M.sleeps) := cell_of_block (i := 10) hp1.blk rfl
                                  obtain ⟨co, fo⟩ := hp1.I.cell on (by rw [List.length_set]; exact HPL.out.2)
                                  have HP1 := Lib.hid hp1
                                  clear hp1
                                  by_cases hsv : M.sleeps = true
                                  · rw [hsv] at c10
                                    have HSV := Lib.hid hsv
                                    clear hsv
                                    go_wp2_with fail
                                    go_meet
                                    have hp2 := HP1.out.put on (by rw [List.length_set]; exact HPL.out.2) 2
                                    rw [List.set_set] at hp2
                                    exact Lib.hid (by rw [HLF.out, if_pos HSV.out]; exact hp2)
                                  · have hsf : M.sleeps = false := by simpa using hsv
                                    rw [hsf] at c10
                                    have HSV := Lib.hid hsf
                                    clear hsf hsv
                                    go_wp2_with fail
                                    go_meet
                                    exact Lib.hid (by rw [HLF.out, if_neg (by rw [HSV.out]; decide)]; exact HP1.out)
                            case rest =>
                              as_aux_lemma =>
                                clear HPMA
                                have hlf : (stLeft st1 (on : Int) M).length = st1.length := by unfold stLeft; split; rfl; rw [pgSet_length]
                                have HPB := Lib.hid hcut.out
                                have c8 : wc.cell? ⟨bm, 8, none⟩ = some (.int .i64 (pn : Int)) := by rw [← HPN.out]; exact cell_of_block (i := 8) HPB.out.blk rfl
                                obtain ⟨ct, ft⟩ := HPB.out.I.cell pn (by rw [hlf]; exact HPL.out.1)
                                have hp2 := HPB.out.put pn (by rw [hlf]; exact HPL.out.1) 1
                                rw [← HMV.out] at hp2
                                have hl2 : (stMove st (on : Int) M).length = st1.length := by rw [HMV.out, List.length_set, hlf]
                                have HL2 := Lib.hid hl2
                                have HP2 := Lib.hid hp2
                                clear hcut hlf hp2 hl2
                                go_upto_region 32 with fail
                                clear c8 ct ft HPB
                                generalize wc.setCell ⟨gg, og + pn, none⟩ (.int .i64 1) = we at *
                                have c11 : we.cell? ⟨bm, 11, none⟩ = some (.slice ac M.closed.length cc) := cell_of_block (i := 11) HP2.out.blk rfl
                                generalize hs2 : stMove st (on : Int) M = st2 at *
                                have HS2 := Lib.hid hs2
                                clear hs2
                                have HCLL : Hid (M.closed.length ≤ maxLen) := Lib.hid (by obtain ⟨_, _, hv, h1, h2⟩ := HP2.out.row.slice; omega)
                                go_upto_block 3 with fail
                                clear c11
                                go_wp2_with fail
                                go_loopw [2, 12, 13, 110] (fun _ _ _ i wx => ∃ j : Nat, j ≤ M.closed.length ∧ i = .int .i64 j ∧ Hid (PgM w wx b7 h' (.slice (some ⟨gg, og, none⟩) st1.length cg) (stClose st2 (M.closed.take j)) bm #[.int .i64 M.entry.id, .int .i64 M.entry.page, .string M.entry.url, .string M.entry.title, .slice a0 n0 c0, .slice a1 n1 c1, .int .i64 M.entry.x, .int .i64 M.entry.y, .int .i64 M.page, .bool M.awake, .bool M.sleeps, .slice ac M.closed.length cc] (.slice ac M.closed.length cc) M.closed)) (fun _ _ _ i _ => M.closed.length - (intOf i).toNat)
                                case atStart => exact ⟨0, Nat.zero_le _, rfl, HP2⟩
                                case round =>
                                  clear HP2
                                  obtain ⟨j, hj, rfl, HPR⟩ := hrel
                                  by_cases hjl : j < M.closed.length
                                  · have j0 : (0 : Int) ≤ (j : Int) := by omega
                                    have j1 : (j : Int) < (M.closed.length : Int) := by omega
                                    have wj : IntKind.i64.wrap ((j : Int) + 1) = ((j + 1 : Nat) : Int) := IntWalk.i64_in _ (by have := HCLL.out; simp only [maxLen] at this; omega)
                                    have hmc := mv_closed HX.out hjl
                                    rw [HON.out, HS2.out] at hmc
                                    obtain ⟨q, hq, hq1, hq2, hq3, hq4, hq5⟩ := hmc
                                    have hlen : (stClose st2 (M.closed.take j)).length = st1.length := by rw [stClose_length, HL2.out]
                                    have u1 : ¬ (q : Int) < 1 := by omega
                                    have u2 : (q : Int) < (st1.length : Int) := by have := HL2.out; omega
                                    have u2n : ¬ st1.length ≤ q := by have := HL2.out; omega
                                    have u3 : (0 : Int) ≤ (q : Int) := by omega
                                    obtain ⟨gc, oc, cc', hv, -, -⟩ := HPR.out.row.addr (by omega)
                                    simp only [Value.slice.injEq] at hv
                                    obtain ⟨rfl, _, rfl⟩ := hv
                                    have s0 := HPR.out.row.cellAt j (.int .i64 (q : Int)) (by rw [← hq]; simp [intC, hjl])
                                    obtain ⟨ce, cf⟩ := HPR.out.I.cell q (by omega)
                                    have c11 : wr.cell? ⟨bm, 11, none⟩ = some (.slice (some ⟨gc, oc, none⟩) M.closed.length cc) := cell_of_block (i := 11) HPR.out.blk rfl
                                    have HNJ : Hid (j + 1 ≤ M.closed.length) := Lib.hid hjl
                                    have HQ5 := Lib.hid hq5
                                    have HQL : Hid (q < (stClose st2 (M.closed.take j)).length) := Lib.hid (by omega)
                                    clear hjl hj hq hq1 hq2 hq5 hlen
                                    generalize hx9 : pgAt (stClose st2 (M.closed.take j)) (q : Int) = x9 at *
                                    clear hx9
                                    go_upto_region 35 with fail
                                    clear s0
                                    go_cut [150] from 115 to 150 (fun u150 wx => u150 = .bool false ∧ wr = wx)
                                    case first =>
                                      as_aux_lemma =>
                                        by_cases hj0 : 0 < j
                                        · obtain ⟨i, rfl⟩ : ∃ i, j = i + 1 := ⟨j - 1, by omega⟩
                                          obtain ⟨zz, hz, hzl⟩ := hq4 i rfl
                                          have hzn : ¬ (q : Int) ≤ zz := by omega
                                          have s1 := HPR.out.row.cellAt i _ hz
                                          have i0 : (0 : Int) ≤ (i : Int) := by omega
                                          have i1 : (i : Int) < (M.closed.length : Int) := by omega
                                          have i2 : (0 : Int) < (i : Int) + 1 := by omega
                                          have ws : IntKind.i64.wrap ((i : Int) + 1 - 1) = (i : Int) := by
                                            rw [show (i : Int) + 1 - 1 = (i : Int) by omega]
                                            exact IntWalk.i64_in _ (by have := HCLL.out; simp only [maxLen] at this; omega)
                                          have ws2 : (i : Int) + 1 - 1 = (i : Int) := by omega
                                          have ws3 : IntKind.i64.wrap (i : Int) = (i : Int) := IntWalk.i64_in _ (by have := HCLL.out; simp only [maxLen] at this; omega)
                                          clear hq4 hz
                                          rcases hq3 with rfl | rfl
                                          all_goals (
                                            go_wp2_with fail
                                            go_meet
                                            exact ⟨rfl, rfl⟩)
                                        · have hjz : ¬ (0 : Int) < (j : Int) := by omega
                                          clear hq4 hj0
                                          rcases hq3 with rfl | rfl
                                          all_goals (
                                            go_wp2_with fail
                                            go_meet
                                            exact ⟨rfl, rfl⟩)
                                    case rest =>
                                      as_aux_lemma =>
                                        obtain ⟨rfl, rfl⟩ := hcut
                                        clear hq3 hq4 c11
                                        go_wp2_with fail
                                        go_roundw
                                        case rel => exact ⟨j + 1, HNJ.out, rfl, Lib.hid (by rw [HQ5.out]; exact HPR.out.put q HQL.out 3)⟩
                                        case measure => have := HNJ.out; simp [intOf, wj]; omega
                                  · have hje : ¬ (j : Int) < (M.closed.length : Int) := by omega
                                    rw [List.take_of_length_le (show M.closed.length ≤ j by omega)] at HPR
                                    clear hj hjl
                                    have HST2 := HX.out.st
                                    rw [HON.out, HS2.out] at HST2
                                    have HSTF := Lib.hid HST2
                                    clear HST2
                                    have HLF : Hid ((stClose st2 M.closed).length = st1.length) := Lib.hid (by rw [stClose_length, HL2.out])
                                    go_wp2_with fail
                                    go_meet
                                    exact ⟨gg, og, cg, stClose st2 M.closed, by rw [HLF.out], Lib.hid ⟨by rw [HLF.out]; exact HPR.out.I, HSTF.out⟩⟩
            · as_aux_lemma =>
                have HS := Lib.hid hS
                obtain rfl : rr = 6 := by have := HRR.out; omega
                obtain ⟨dn, hdn⟩ := Int.eq_ofNat_of_zero_le (show 0 ≤ r.o.delta by omega)
                have hq1 : ¬ (dn : Int) < 1 := by omega
                have hq2 : (dn : Int) < (st.length : Int) := by omega
                have hq3 : (0 : Int) ≤ (dn : Int) := by omega
                have hdl : dn < st.length := by omega
                have wd : IntKind.i64.wrap (dn : Int) = (dn : Int) := IntWalk.i64_in _ (by have := HST.out; omega)
                have HDLN := Lib.hid hdl
                obtain ⟨ce, cf⟩ := HPM.out.I.cell dn hdl
                rw [hdn] at hd3
                rw [hd3] at ce
                have cd := cell_of_block (i := 3) HBO8.out rfl
                simp only [List.getElem_toArray, List.getElem_cons_zero, List.getElem_cons_succ] at cd
                rw [hdn] at cd
                have HDN := Lib.hid hdn
                clear hS hkd HSTEP hd1 hd2 hd3 hdn hdl
                go_upto_region 44 with fail
                go_meet
                refine ⟨ga, oa, ca, st.set dn 4, by rw [List.length_set], Lib.hid ⟨?_, ?_⟩⟩
                · rw [List.length_set]; exact HPM.out.I.put dn HDLN.out 4
                · have := HS.out; rw [HDN.out, pgSet_nat] at this; exact this
            · as_aux_lemma =>
                have HS := Lib.hid hS
                have hrv : rr = 2 ∨ rr = 4 ∨ rr = 5 := by have := HRR.out; omega
                clear hS hkd HSTEP
                rcases hrv with rfl | rfl | rfl
                all_goals (
                  go_wp2_with fail
                  go_meet
                  exact ⟨_, _, _, st, rfl, Lib.hid ⟨HPM.out.I, HS.out⟩⟩)
          case rest =>
            as_aux_lemma =>
            obtain ⟨gz, oz, cz, st', rfl, HR⟩ := hcut
            clear HPM HSTEP HBO8 HON
            obtain ⟨I0, S0⟩ := HR.out
            have hsl := S0.len
            have hpg := HO1.out.page
            have HS0 := Lib.hid S0
            have HI0 := Lib.hid I0
            have HL8 : Hid (st'.length ≤ 810 ∧ 2 ≤ st'.length) := Lib.hid (by omega)
            clear S0 hsl hpg HR I0
            go_wp2_with fail
            go_loopw [2, 15, 16] (fun _ p _ wx => ∃ n : Nat, 1 ≤ n ∧ n ≤ st'.length ∧ p = .int .i64 n ∧ Hid (PgI w wx b7 h' (.slice (some ⟨gz, oz, none⟩) st'.length cz) st')) (fun _ p _ _ => st'.length - (intOf p).toNat)
            case atStart => exact ⟨1, Nat.le_refl _, by have := HL8.out; omega, rfl, HI0⟩
            case round =>
              clear HI0
              obtain ⟨n, hn1, hn, rfl, HI⟩ := hrel
              by_cases hlt : n < st'.length
              · have n0 : (0 : Int) ≤ (n : Int) := by omega
                have n1 : (n : Int) < (st'.length : Int) := by omega
                have wn : IntKind.i64.wrap ((n : Int) + 1) = ((n + 1 : Nat) : Int) := IntWalk.i64_in _ (by have := HL8.out; omega)
                have hne := HS0.out.pos n (by omega) (by omega)
                have htw := HS0.out.two n (by omega) (by omega)
                obtain ⟨ce, -⟩ := HI.out.cell n hlt
                obtain ⟨X, vl, vs, rs, hx, hxx⟩ := HI.out.ex
                have HXX := Lib.hid hxx
                have HNE := Lib.hid hne
                have HTW := Lib.hid htw
                have HNX : Hid (n + 1 ≤ st'.length) := Lib.hid hlt
                obtain ⟨asl, csl, rfl, -, -⟩ := hx.slp.slice
                have s4 := cell_of_block (i := 4) hx.box rfl
                simp only [List.getElem_toArray, List.getElem_cons_zero, List.getElem_cons_succ] at s4
                have HHX := Lib.hid hx
                have HSL : Hid (h'.sleeping.length ≤ 800) := Lib.hid HO1.out.slp
                clear hx hxx hne htw hlt hn hn1
                go_upto_block 7 with fail
                clear s4
                go_cut [16] from 187 to 197 (fun u16 wx => u16 = .bool (asleepB h'.sleeping n) ∧ wx = wr)
                case first =>
                  go_wp2_with fail
                  go_loopw [16, 187] (fun u16 i wx => ∃ j : Nat, j ≤ h'.sleeping.length ∧ u16 = .bool (asleepB (h'.sleeping.take j) n) ∧ i = .int .i64 j ∧ Hid (wx = wr)) (fun _ i _ => h'.sleeping.length - (intOf i).toNat)
                  case atStart => exact ⟨0, Nat.zero_le _, by simp [asleepB], rfl, Lib.hid rfl⟩
                  case round =>
                    obtain ⟨j, hj, rfl, rfl, HW⟩ := hrel
                    have hw := HW.out
                    clear HW
                    subst hw
                    by_cases hjl : j < h'.sleeping.length
                    · have j0 : (0 : Int) ≤ (j : Int) := by omega
                      have j1 : (j : Int) < (h'.sleeping.length : Int) := by omega
                      have wj : IntKind.i64.wrap ((j : Int) + 1) = ((j + 1 : Nat) : Int) := IntWalk.i64_in _ (by have := HSL.out; omega)
                      obtain ⟨gs, os, cap', hv, -, -⟩ := HHX.out.slp.addr (by omega)
                      simp only [Value.slice.injEq] at hv
                      obtain ⟨rfl, _, rfl⟩ := hv
                      have s0 := HHX.out.slp.cellAt j (.int .i64 h'.sleeping[j]) (by simp [intC, hjl])
                      have HSU := Lib.hid (asleepB_succ (p := (n : Int)) hjl)
                      have HNJ : Hid (j + 1 ≤ h'.sleeping.length) := Lib.hid hjl
                      generalize h'.sleeping[j] = s at *
                      clear hjl hj
                      generalize asleepB (h'.sleeping.take j) n = bq at *
                      cases bq with
                      | true =>
                        go_wp2_with fail
                        go_roundw
                        case rel => exact ⟨j + 1, HNJ.out, by rw [HSU.out]; rfl, rfl, Lib.hid (by first | rfl | trivial)⟩
                        case measure => have := HNJ.out; simp [intOf, wj]; omega
                      | false =>
                        go_wp2_with fail
                        go_roundw
                        case rel => exact ⟨j + 1, HNJ.out, by rw [HSU.out]; rfl, rfl, Lib.hid (by first | rfl | trivial)⟩
                        case measure => have := HNJ.out; simp [intOf, wj]; omega
                    · have i1 : ¬ (j : Int) < (h'.sleeping.length : Int) := by omega
                      rw [List.take_of_length_le (show h'.sleeping.length ≤ j by omega)]
                      clear hj hjl
                      go_wp2_with fail
                      go_meet
                      exact ⟨rfl, rfl⟩
                case rest =>
                  obtain ⟨rfl, rfl⟩ := hcut
                  have HSB := Lib.hid (asleepB_true (l := h'.sleeping) (p := (n : Int)))
                  generalize asleepB h'.sleeping n = sb at *
                  generalize pgAt st' n = x at *
                  have z0 : (x == 0) = false := by have := HNE.out; simpa using this
                  by_cases hm : (n : Int) ∈ h'.sleeping
                  · obtain rfl : sb = true := HSB.out.2 hm
                    obtain rfl : x = 2 := HTW.out.2 hm
                    clear hm HSB HTW z0 HNE
                    go_wp2_with fail
                    go_roundw
                    case rel => exact ⟨n + 1, by omega, HNX.out, rfl, HI⟩
                    case measure => have := HNX.out; simp [intOf, wn]; omega
                  · obtain rfl : sb = false := by
                      cases sb with
                      | false => rfl
                      | true => exact (hm (HSB.out.1 rfl)).elim
                    have z2 : (x == 2) = false := by
                      simp only [beq_eq_false_iff_ne, ne_eq]
                      exact fun e => hm (HTW.out.1 e)
                    clear hm HSB HTW HNE
                    go_wp2_with fail
                    go_roundw
                    case rel => exact ⟨n + 1, by omega, HNX.out, rfl, HI⟩
                    case measure => have := HNX.out; simp [intOf, wn]; omega
              · have i1 : ¬ (n : Int) < (st'.length : Int) := by omega
                clear hn1 hn hlt
                go_wp2_with fail
                go_roundw
                case rel => exact ⟨k + 1, st', HNX.out, rfl, Lib.hid (by rw [HH1.out]; exact ⟨HI.out, HS0.out⟩)⟩
                case measure => have := HNX.out; simp [intOf, w64]; omega
      · have i1 : ¬ (k : Int) < (l.length : Int) := by omega
        have HFIN := Lib.hid (HX.out.1.chg.below (Nat.le_refl w.heap.size) (fun k x => x.elim))
        clear HX hk hlt
        go_wp2_with fail
        go_ret
        exact ⟨rfl, HFIN.out⟩
end Go.Proofs.YtiecgbmeobpomaaDoor
namespace Go.Proofs.YtiecgbmeobpomaaDoor
open Go.RowKit Go.ChangeShapes
set_option linter.unusedVariables false
set_option linter.unusedSimpArgs false

theorem first_eq : (Rows.laid_unicode_utf8_first : DataW Unit) = Lib.firstData := (show (Rows.laid_unicode_utf8_first : DataW Unit) = Pinned.utf8First from rfl).trans Pinned.utf8First_eq
theorem accept_eq : (Rows.laid_unicode_utf8_acceptRanges : DataW Unit) = Lib.acceptData := by kernel_rfl
set_option maxRecDepth 100000 in
theorem utf8_of_laid48 {W : World} (h : laidMetH Tryd.prog Rows.historyEvictRow.laid W) : Lib.Utf8Tabs 0 1 W := by
  rw [MakeChecks.laidMetH_plain _ _ _ (by kernel_rfl)] at h
  have r3 := Lib.laidMet.reads h (n := "unicode/utf8.first") (d := Rows.laid_unicode_utf8_first) (.tail _ (.head _))
  have r4 := Lib.laidMet.reads h (n := "unicode/utf8.acceptRanges") (d := Rows.laid_unicode_utf8_acceptRanges) (.head _)
  rw [first_eq] at r3
  rw [accept_eq] at r4
  exact utf8Tabs_of_readsT (U8Types.of196 sh_lays196) ⟨by kernel_rfl, by kernel_rfl, by kernel_rfl, by kernel_rfl, by kernel_rfl, by kernel_rfl, by kernel_rfl⟩ r3 r4
end Go.Proofs.YtiecgbmeobpomaaDoor
namespace Go.Proofs.YtiecgbmeobpomaaDoor
set_option linter.unusedVariables false
open Go.ChangeShapes Go.WideShapes Go.ChangeAt Go.RowKit

theorem trod_lengths {P : Program} {H : Type} {enc : TypeId × Value → H} {W : World} : ∀ (ts : List TypeId) (vs : List Value) (ds : List (DataW H)) (ps : List MemPlace), DataW.TrodAll enc P W 0 (fun _ => true) true ts vs ds ps → ds.length = ts.length := by
  intro ts
  induction ts with
  | nil => intro vs ds ps h; cases vs <;> cases ds <;> first | rfl | exact h.elim
  | cons t ts ih => intro vs ds ps h; cases vs <;> cases ds <;> first | exact h.elim | (obtain ⟨_, _, _, h2, _⟩ := h; simp [ih _ _ _ h2])

/-- A law's contract lifted to its row, over listed variables. -/
theorem law_liftD {C : Checked} {os : Os} {f : FuncId} {fn : Func} {s : ChangeSpec} {H : Type} {enc : TypeId × Value → H} {tb : TypeId} {F : Stop.Interp} {laid : List (String × DataW Unit)} (started : os.Started)
    (own : ownKnob C.prog.godebug = none) (hl : laidOutB C.prog = true) (noInit : C.prog.inits.idxOf? f = none) (hfn : C.prog.funcs[f]? = some fn) (hts : rowed C.prog fn.params.toList = true) (hres : fn.resultTypes = #[tb]) (hbool : C.prog.underlying tb = some .bool) (hvars : s.vars = [])
    (hargs : ∀ ds : List (DataW H), ds.length = fn.params.toList.length → s.fn H ds = { results := [.lit (.bool true)], args := ds })
    (witness : ∃ (w : World) (tape : Tape) (i : Input), w.os = os ∧ (w.forCall tape i).Shaped C.prog ∧ i.vars = [] ∧ Input.okWide C.prog (w.forCall tape i) .any w.heap.size f i ∧
      (OpenSpec.ofChange s).preRow enc C.prog fn [] false laid (w.forCall tape i).memory i.args ∧ Assume.holds {} C.prog (lone (Frame.enter C.prog f i.args .normal) [] (w.forCall tape i)))
    (core : ∀ (W : World) (base : Nat) (vs : List Value) (ds : List (DataW H)) (ps : List MemPlace), (∀ (j : Nat) t v, fn.params.toList[j]? = some t → vs[j]? = some v → Value.okWide C.prog W .any base t v) →
      DataW.TrodAll enc C.prog W 0 (fun _ => true) true fn.params.toList vs ds ps → (DataW.weightsEach C.prog fn.params.toList ds).all (· ≤ reachBytes) = true → laidMetH C.prog laid W →
      Calls C.prog f vs.toArray W fun e W' => e = .returned (.bool true) ∧ Below W.heap.size W W') :
    ReturnsInHanded {} C os f .any ((OpenSpec.ofChange s).preRow enc C.prog fn [] false laid) (((OpenSpec.ofChange s).at F).post enc C.prog fn false true false false) := by
  refine returnsInHanded_of_row (C := C) (s := OpenSpec.ofChange s) own started noInit hfn witness ?_
  intro W base args ds gs before hval hW _ _ hsz hL _ _
  have hW' : DataW.Whole enc C.prog fn.params.toList s.vars false W args.toList ds gs before := hW
  obtain ⟨p, q, hA, hV, rfl, hfz, hnd⟩ := hW'
  have hV' : DataW.TrodVars enc C.prog W (fun _ => true) s.vars gs q := hV
  rw [hvars] at hV'
  obtain ⟨rfl, rfl⟩ := trodVars_none hV'
  simp only [List.append_nil] at hsz
  have hlen : ds.length = fn.params.toList.length := trod_lengths _ _ _ _ hA
  have hvt : (OpenSpec.ofChange s).bare.plain.varTypes C.prog = [] := by simp [OpenSpec.ofChange, OpenSpec.bare, DataSpec.varTypes, ChangeSpec.plain, hvars]
  rw [hvt, List.append_nil] at hsz
  have := core W base args.toList ds p (fun j t v h1 h2 => hval j t v (by simpa using h1) (by simpa using h2)) hA hsz hL
  rw [Array.toArray_toList] at this
  refine this.mono fun e W' ⟨he, hb⟩ => ⟨_, he, ?_⟩
  exact (law_post (s := s) hl hts hres hbool hvars hW (by rw [List.append_nil]; exact hargs ds hlen) hb)

/-- The same for the second row (bulk at most 1048576). -/
theorem law_liftD_upto {C : Checked} {os : Os} {f : FuncId} {fn : Func} {s : ChangeSpec} {H : Type} {enc : TypeId × Value → H} {tb : TypeId} {F : Stop.Interp} {laid : List (String × DataW Unit)} (started : os.Started)
    (own : ownKnob C.prog.godebug = none) (hl : laidOutB C.prog = true) (noInit : C.prog.inits.idxOf? f = none) (hfn : C.prog.funcs[f]? = some fn) (hts : rowed C.prog fn.params.toList = true) (hres : fn.resultTypes = #[tb]) (hbool : C.prog.underlying tb = some .bool) (hvars : s.vars = [])
    (hargs : ∀ ds : List (DataW H), ds.length = fn.params.toList.length → s.fn H ds = { results := [.lit (.bool true)], args := ds })
    (witness : ∃ (w : World) (tape : Tape) (i : Input), w.os = os ∧ (w.forCall tape i).Shaped C.prog ∧ i.vars = [] ∧ Input.okWide C.prog (w.forCall tape i) .any w.heap.size f i ∧
      (Rows.OpenSpec.upto s).preRow enc C.prog fn [] false laid (w.forCall tape i).memory i.args ∧ Assume.holds {} C.prog (lone (Frame.enter C.prog f i.args .normal) [] (w.forCall tape i)))
    (core : ∀ (W : World) (base : Nat) (vs : List Value) (ds : List (DataW H)) (ps : List MemPlace), (∀ (j : Nat) t v, fn.params.toList[j]? = some t → vs[j]? = some v → Value.okWide C.prog W .any base t v) →
      DataW.TrodAll enc C.prog W 0 (fun _ => true) true fn.params.toList vs ds ps → Rows.uptoBulkAll ds ≤ 1048576 → laidMetH C.prog laid W →
      Calls C.prog f vs.toArray W fun e W' => e = .returned (.bool true) ∧ Below W.heap.size W W') :
    ReturnsInHanded {} C os f .any ((Rows.OpenSpec.upto s).preRow enc C.prog fn [] false laid) (((Rows.OpenSpec.upto s).at F).post enc C.prog fn false true false false) := by
  refine returnsInHanded_of_row (C := C) (s := Rows.OpenSpec.upto s) own started noInit hfn witness ?_
  intro W base args ds gs before hval hW _ hk _ hL _ _
  have hW' : DataW.Whole enc C.prog fn.params.toList s.vars false W args.toList ds gs before := hW
  obtain ⟨p, q, hA, hV, rfl, hfz, hnd⟩ := hW'
  have hV' : DataW.TrodVars enc C.prog W (fun _ => true) s.vars gs q := hV
  rw [hvars] at hV'
  obtain ⟨rfl, rfl⟩ := trodVars_none hV'
  have hk2 := hk Rows.uptoSmall rfl
  simp only [List.append_nil] at hk2
  have hlen : ds.length = fn.params.toList.length := trod_lengths _ _ _ _ hA
  have := core W base args.toList ds p (fun j t v h1 h2 => hval j t v (by simpa using h1) (by simpa using h2)) hA (of_decide_eq_true hk2) hL
  rw [Array.toArray_toList] at this
  refine this.mono fun e W' ⟨he, hb⟩ => ⟨_, he, ?_⟩
  exact (law_post (s := s) hl hts hres hbool hvars hW (by rw [List.append_nil]; exact hargs ds hlen) hb)
end Go.Proofs.YtiecgbmeobpomaaDoor
namespace Go.Proofs.YtiecgbmeobpomaaDoor
open Go.RowKit Go.ChangeShapes Go.WideShapes Go.ChangeAt
open Go.ChangeMaps (open_string shut_string)
set_option linter.unusedVariables false
set_option linter.unusedSimpArgs false

set_option maxRecDepth 100000 in
theorem historyPages_laid (os : Os) : laidMetH Tryd.prog Rows.historyPagesRow.laid ((World.laidAll Tryd.prog os Rows.historyPagesRow.laid).forCall (fun _ _ => 0) ⟨#[], #[.slice none 0 0], []⟩).memory := by
  rw [MakeChecks.laidMetH_plain _ _ _ (by kernel_rfl)]
  exact laidMet_laidAll _ (by kernel_rfl) (by kernel_rfl)
set_option maxRecDepth 100000 in
theorem historyPages_lifted (os : Os) (started : os.Started) (H : Type) (enc : TypeId × Value → H) (F : Stop.Interp) :
    ReturnsInHanded {} Tryd.checked os 5 .any ((OpenSpec.ofChange Rows.historyPagesSpec).preRow enc Tryd.prog Tryd.f5 [] false Rows.historyPagesRow.laid) (((OpenSpec.ofChange Rows.historyPagesSpec).at F).post enc Tryd.prog Tryd.f5 false true false false) := by
  obtain ⟨places, hx⟩ : ∃ places, DataW.whole enc Tryd.prog ((World.laidAll Tryd.prog os Rows.historyPagesRow.laid).forCall (fun _ _ => 0) ⟨#[], #[.slice none 0 0], []⟩).memory Tryd.f5.params.toList [] false (#[.slice none 0 0] : Array Value).toList 8 = some ([.nil], [], places) := ⟨[], by kernel_rfl⟩
  refine law_liftD (C := Tryd.checked) (s := Rows.historyPagesSpec) (tb := 4) started Tryd.own Tryd.laidOut (by kernel_rfl) Tryd.func5 (by kernel_rfl) rfl Tryd.underlying4 rfl ?_
    (witness_row_at (enc := enc) (C := Tryd.checked) false (World.laidAll Tryd.prog os Rows.historyPagesRow.laid) #[.slice none 0 0] (World.laidAll_os _ _ _) (by kernel_rfl) (by kernel_rfl) (by kernel_rfl)
      (OpenSpec.preRow_of_cond 8 hx (by kernel_rfl) (fun k hk => by cases hk) (by kernel_rfl) (historyPages_laid os))) ?_
  · intro ds h
    match ds, h with
    | [_], _ => rfl
  · intro W base vs ds ps hval hA hsz hL
    have hp : Tryd.f5.params.toList = [22] := by rw [Tryd.params5]
    rw [hp] at hval hA hsz
    obtain ⟨v0, vs0, d0, ds0, p0, q0, rfl, rfl, rfl, h0, r0⟩ := trodAll_cons hA
    obtain ⟨rfl, rfl, rfl⟩ := trodAll_nil r0
    obtain ⟨a0, rfl, w0⟩ := open_ops (hval 0 22 v0 rfl rfl) h0
    exact historyPages_walk W a0.1 a0.2 w0.1 w0.2 (utf8_of_laid48 hL)

theorem historyPages_said : Rows.HistoryPagesSaid :=
  OpenClaim.holds_of_cond 5 Tryd.f5 rfl rfl rfl rfl rfl rfl rfl ⟨rfl, rfl, rfl, rfl, rfl⟩ rfl rfl rfl rfl rfl (by kernel_rfl) Tryd.func5 (by kernel_rfl)
    (of_decide_eq_true (by kernel_rfl)) (by unfold Func.isWrapper; first | (rw [if_pos (by decide +kernel)]; kernel_rfl) | (rw [if_neg (by decide +kernel)]; exact ⟨rfl, rfl⟩))
    (fun os started H enc _ F => by rw [OpenClaim.pre_eq_preRow]; exact historyPages_lifted os started H enc F)
theorem historyPages_plain (f : FuncId) (fn : Func) (hf : Tryd.pinned.checked.prog.funcNamed "knapsack/knapsacklaw48.HistoryPages" = some f) (hfn : Tryd.pinned.checked.prog.funcs[f]? = some fn) :
    false = Tryd.pinned.checked.prog.looks [] ∧ ∀ (j : Nat) t, fn.params[j]? = some t → Tryd.pinned.checked.prog.wantsStandIn t = false := by
  obtain rfl : f = 5 := Option.some.inj ((show Tryd.prog.funcNamed "knapsack/knapsacklaw48.HistoryPages" = some 5 by kernel_rfl).symm.trans hf) |>.symm
  obtain rfl : fn = Tryd.f5 := (Option.some.inj (Tryd.func5.symm.trans hfn)).symm
  refine ⟨by kernel_rfl, fun j t ht => ?_⟩
  rw [Tryd.params5] at ht
  have hm : t ∈ [22] := by simpa using Array.mem_of_getElem? ht
  have hall : ([22].all fun u => !Tryd.prog.wantsStandIn u) = true := by kernel_rfl
  exact (show Tryd.prog.wantsStandIn t = false by simpa using List.all_eq_true.1 hall t hm)
/-- The tied card. -/
theorem historyPages_holds : Rows.HistoryPagesCardSaid :=
  Claim7.holds_tied_plain_at .later [] _ _ _ _ historyPages_said (fun _ h => by cases h) (by kernel_rfl) (fun _ h => by cases h) historyPages_row_tie rfl ⟨rfl, rfl⟩ (by kernel_rfl) rfl historyPages_plain (by kernel_rfl)
#print axioms historyPages_holds
end Go.Proofs.YtiecgbmeobpomaaDoor
