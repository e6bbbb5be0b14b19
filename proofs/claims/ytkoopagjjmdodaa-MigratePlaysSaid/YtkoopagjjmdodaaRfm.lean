/-
  The reference of layer 54: Receive.
-/
import Derived.Test.YtkoopagjjmdodaaRD
import Derived.Deep.CutRange
namespace Go.Proofs.Ytkoopagjjmdodaa
open Go.RowKit
set_option linter.unusedVariables false
set_option linter.unusedSimpArgs false

set_option maxHeartbeats 60000000 in
set_option maxRecDepth 100000 in
theorem rreceive_any (w : World) (b o : Nat) (h : Host) (F : List Nat) (m : Msg) (H : Here hostR w b o h F) (h1 : m.page.size ≤ 9223372036854775807) (h2 : m.data.size ≤ 9223372036854775807) (hk : HostOk h) (hst : StOk h) :
    Calls Try.prog 28 #[.pointer (some ⟨b, o, none⟩), .agg m.cells.toArray] w fun e w' => e = .returned (.tuple #[]) ∧ HostPost w b o (receiveM h m) F w' := by
  have HFF := Lib.hid (fun W => refFormed_any m W h1 h2)
  have HH := Lib.hid H
  have HK := Lib.hid hk
  have HST := Lib.hid hst
  have hsl := hk.seats
  have hc1 := Chg.alloc (fun _ => False) w (.cells #[.int .i64 m.kind, .int .i64 m.frm, .int .i64 m.dst, .string m.page, .int .i64 m.epoch, .int .i64 m.index, .int .i64 m.count, .string m.data] 39)
  have g1 := alloc_block w (.cells #[.int .i64 m.kind, .int .i64 m.frm, .int .i64 m.dst, .string m.page, .int .i64 m.epoch, .int .i64 m.index, .int .i64 m.count, .string m.data] 39)
  obtain ⟨vs, vo, F1, F2, X⟩ := Split.of H
  have HX := Lib.hid X
  unfold Msg.cells at HFF ⊢
  have c0 := hc1.cell X.id
  clear h1 h2 H hk X hst
  go_enter Try.func28, Try.ntmps28
  go_upto_region 1 with fail
  generalize w.alloc (.cells #[.int .i64 m.kind, .int .i64 m.frm, .int .i64 m.dst, .string m.page, .int .i64 m.epoch, .int .i64 m.index, .int .i64 m.count, .string m.data] 39) = w1 at *
  have m0 : ∀ x : Later w1, x.at_.cell? ⟨w.heap.size, 0, none⟩ = some (.int .i64 m.kind) := Later.cell (cell_of_block (i := 0) g1 rfl)
  have m1 : ∀ x : Later w1, x.at_.cell? ⟨w.heap.size, 1, none⟩ = some (.int .i64 m.frm) := Later.cell (cell_of_block (i := 1) g1 rfl)
  have m2 : ∀ x : Later w1, x.at_.cell? ⟨w.heap.size, 2, none⟩ = some (.int .i64 m.dst) := Later.cell (cell_of_block (i := 2) g1 rfl)
  have m3 : ∀ x : Later w1, x.at_.cell? ⟨w.heap.size, 3, none⟩ = some (.string m.page) := Later.cell (cell_of_block (i := 3) g1 rfl)
  have m4 : ∀ x : Later w1, x.at_.cell? ⟨w.heap.size, 4, none⟩ = some (.int .i64 m.epoch) := Later.cell (cell_of_block (i := 4) g1 rfl)
  have m5 : ∀ x : Later w1, x.at_.cell? ⟨w.heap.size, 5, none⟩ = some (.int .i64 m.index) := Later.cell (cell_of_block (i := 5) g1 rfl)
  have m6 : ∀ x : Later w1, x.at_.cell? ⟨w.heap.size, 6, none⟩ = some (.int .i64 m.count) := Later.cell (cell_of_block (i := 6) g1 rfl)
  have m7 : ∀ x : Later w1, x.at_.cell? ⟨w.heap.size, 7, none⟩ = some (.string m.data) := Later.cell (cell_of_block (i := 7) g1 rfl)
  have l0 : ∀ x : Later w1, x.at_.cell? ⟨b, o, none⟩ = some (.int .i64 h.id) := Later.cell c0
  have HG1 := Lib.hid g1
  have HC1 := Lib.hid hc1
  clear g1 hc1 c0
  cases hfm : formedB m with
  | false =>
    have hM : receiveM h m = h := by unfold receiveM; rw [if_pos (.inl hfm)]
    rw [hfm] at HFF
    have HM := Lib.hid hM
    clear hfm hM
    refine wp_region_later (by kernel_rfl) (by kernel_rfl) ?_
    repeat (go_big_quiet_step ((go_at_call 20; exact Later.call (HFF.out _))))
    refine wpQuiet_nil ?_
    rintro _ ⟨x, rfl⟩
    go_wp2_with fail
    refine bodyPost_ret (results_none rfl _ _ _) rfl ?_
    rw [HM.out]
    exact ⟨rfl, hostStill HH.out (HC1.out.trans' x.chg)⟩
  | true =>
    rw [hfm] at HFF
    by_cases hd : m.dst = h.id
    · have q1 : (m.dst != h.id) = false := by simpa using hd
      have HD := Lib.hid hd
      have HFM := Lib.hid hfm
      clear hd hfm
      refine wp_region_later (by kernel_rfl) (by kernel_rfl) ?_
      repeat (go_big_quiet_step ((go_at_call 20; exact Later.call (HFF.out _))))
      refine wpQuiet_nil ?_
      rintro _ ⟨x, rfl⟩
      have hc2 := HC1.out.trans' x.chg
      have g2 := x.chg.keep HG1.out (fun z => z)
      clear m0 m1 m2 m3 m4 m5 m6 m7 l0 HG1 HC1 q1 HFF
      generalize x.at_ = w2 at *
      have m3 : w2.cell? ⟨w.heap.size, 3, none⟩ = some (.string m.page) := cell_of_block (i := 3) g2 rfl
      have HC2 := Lib.hid hc2
      have HG2 := Lib.hid g2
      clear hc2 g2 x
      go_wp2_with fail
      refine (rfind_any w2 b o h F m.page (HH.out.still HC2.out) hsl).mono ?_
      rintro e w3 ⟨rfl, rfl⟩
      go_upto_if 31 with fail
      have hsb := alloc_block w2 (.cells #[.string m.page, .int .i64 0, .int .i64 0, .int .i64 0, .string ⟨#[]⟩, .slice none 0 0, .slice none 0 0, .slice none 0 0] 67)
      have hcb := Chg.alloc (fun _ => False) w2 (.cells #[.string m.page, .int .i64 0, .int .i64 0, .int .i64 0, .string ⟨#[]⟩, .slice none 0 0, .slice none 0 0, .slice none 0 0] 67)
      generalize w2.alloc (.cells #[.string m.page, .int .i64 0, .int .i64 0, .int .i64 0, .string ⟨#[]⟩, .slice none 0 0, .slice none 0 0, .slice none 0 0] 67) = w4 at *
      have HSB := Lib.hid hsb
      have HCB := Lib.hid hcb
      have hlo : w.heap.size < w2.heap.size := lt_of_block HG2.out
      have HLO := Lib.hid hlo
      clear m3 hsb hcb hlo
      generalize hix : idxOf (findS m.page h.seats 0) = ix at *
      have HIX := Lib.hid hix
      clear hix
      generalize hsbn : w2.heap.size = sb at *
      go_cut [] from 11 to 38 (fun wx => ∃ v5 v6 v7 Gj Gn, SeatSrc w h m vs F1 Gj ∧ Rv w wx b o m h.out F2 F2 sb (refSeat h m) v5 v6 v7 Gj Gn)
      case first =>
        have hX := HX.out
        have hnF2 : sb ∉ F2 ∧ w.heap.size ∉ F2 := ⟨fun x => by have := hX.lt.2.2 _ x; have := HLO.out; omega, fun x => by have := hX.lt.2.2 _ x; omega⟩
        have HNF := Lib.hid hnF2
        clear hX hnF2
        cases hf : findS m.page h.seats 0 with
        | none =>
          have hi := HIX.out
          rw [hf] at hi
          have hi2 : ix = -1 := hi.symm
          have HF := Lib.hid hf
          clear hf hi
          subst hi2
          go_wp2_with fail
          go_meet
          have hrs : refSeat h m = blankSeat m.page := by unfold refSeat; rw [HF.out]
          rw [hrs]
          refine ⟨_, _, _, [], [], ?_, Mids.start HX.out (HC2.out.trans' HCB.out), HCB.out.keep HG2.out (fun z => z), HSB.out, HLO.out, HNF.out, blank_own _ _, List.nodup_nil, fun k hk => by cases hk⟩
          unfold SeatSrc
          rw [HF.out]
          exact ⟨fun x hx => (by cases hx), rfl⟩
        | some j =>
          have hj : j < h.seats.length := by have := findS_lt m.page h.seats 0 j hf; omega
          have hi := HIX.out
          rw [hf] at hi
          have hi2 : ix = (j : Int) := hi.symm
          have hrs : refSeat h m = h.seats[j] := by unfold refSeat; rw [hf]; simp [hj]
          obtain ⟨g, off, cap, hv⟩ := hostRow HH.out (by omega)
          have hvs : vs = .slice (some ⟨g, off, none⟩) h.seats.length cap := by
            have := HX.out.c1
            rw [hv] at this
            exact (Option.some.inj this).symm
          obtain ⟨hgF, Gj, HS, hGF, -⟩ := HX.out.set hvs hj
          have HS0 := Lib.hid HS
          have HND := Lib.hid HS.nd
          obtain ⟨y, hy⟩ : ∃ y, h.seats[j] = y := ⟨_, rfl⟩
          rw [hy] at HS hrs
          obtain ⟨cb, T, v5, v6, v7, hblk, hsz, hown, q0, q1, q2, q3, q4, q5, q6, q7⟩ := seatBlock HS
          obtain ⟨v5', v6', v7', F5, F6, F7, he, k5, k6, k7, -⟩ := id hown
          cases he
          obtain ⟨xs5, Fs5, op5⟩ := Rep.opened k5
          obtain ⟨a5, c5, rfl, -, -⟩ := op5.val
          obtain ⟨xs6, Fs6, op6⟩ := Rep.opened k6
          obtain ⟨a6, c6, rfl, -, -⟩ := op6.val
          obtain ⟨xs7, Fs7, op7⟩ := Rep.opened k7
          obtain ⟨a7, c7, rfl, -, -⟩ := op7.val
          have hcw := HC2.out.trans' HCB.out
          have s0 := hcw.cell (cell_of_block hblk q0)
          have s1 := hcw.cell (cell_of_block hblk q1)
          have s2 := hcw.cell (cell_of_block hblk q2)
          have s3 := hcw.cell (cell_of_block hblk q3)
          have s4 := hcw.cell (cell_of_block hblk q4)
          have s5 := hcw.cell (cell_of_block hblk q5)
          have s6 := hcw.cell (cell_of_block hblk q6)
          have s7 := hcw.cell (cell_of_block hblk q7)
          have c1 := hcw.cell hv
          have i0 : (0 : Int) ≤ (j : Int) := Int.natCast_nonneg _
          have i2 : decide ((0 : Int) ≤ (j : Int)) = true := decide_eq_true i0
          have i1 : (j : Int) < (h.seats.length : Int) := by omega
          have HSR : Hid (SeatSrc w h m vs F1 Gj) := Lib.hid (by
            unfold SeatSrc
            rw [hf]
            exact ⟨hGF, g, off, _, cap, hj, hvs, hgF, HS0.out⟩)
          have HRS := Lib.hid hrs
          have HGJ : Hid (∀ k ∈ Gj, k ∉ F2 ∧ k ≠ sb) := Lib.hid (fun k hk => ⟨HX.out.nd.2.2.1 k (hGF k hk), fun e => by have h1 := HX.out.lt.2.1 k (hGF k hk); have h2 := HLO.out; omega⟩)
          obtain ⟨hbt, hct⟩ := top8 HSB.out rfl (.string y.page) (.int .i64 y.state) (.int .i64 y.epoch) (.int .i64 y.peer) (.string y.letter) (.slice a5 y.parts.length c5) (.slice a6 y.have_.length c6) (.slice a7 y.refuses.length c7)
          have HBT := Lib.hid hbt
          have HCT := Lib.hid hct
          obtain ⟨z0, y0, z1, y1, z2, y2, z3, y3, z4, y4, z5, y5, z6, y6, z7, y7, -⟩ := store8 (so := 0) HSB.out (.string y.page) (.int .i64 y.state) (.int .i64 y.epoch) (.int .i64 y.peer) (.string y.letter) (.slice a5 y.parts.length c5) (.slice a6 y.have_.length c6) (.slice a7 y.refuses.length c7) ⟨rfl, rfl, rfl, rfl, rfl, rfl, rfl, rfl⟩
          simp only [drew_cell, drew_frozen, Nat.zero_add] at z0 y0 z1 y1 z2 y2 z3 y3 z4 y4 z5 y5 z6 y6 z7 y7
          have HCW := Lib.hid hcw
          have HOW := Lib.hid hown
          clear hy HS0 hf hi hv hvs HS hGF hblk hown q0 q1 q2 q3 q4 q5 q6 q7 k5 k6 k7 op5 op6 op7 hbt hct hcw hgF hrs hsz
          subst hi2
          refine wp_cond_split rfl (fun _ => ?_) (fun hx => ?_)
          rotate_left
          · rw [i2] at hx
            cases hx
          go_wp2_with fail
          go_meet
          rw [HRS.out]
          have hMd := Mids.start HX.out HCW.out
          refine ⟨_, _, _, Gj, Gj, HSR.out, Mids.start HX.out (HCW.out.fresh HCT.out (fun i hi => by have := HLO.out; omega)), HCT.out.keep (HCB.out.keep HG2.out (fun z => z)) (fun e => by have e' : w.heap.size = sb := e; have := HLO.out; omega), HBT.out, HLO.out, HNF.out, ?_, HND.out, fun k hk => ⟨.inl hk, HGJ.out k hk⟩⟩
          exact seatR.chg (seatR.chg HOW.out HCW.out (fun _ _ x => x)) HCT.out (fun k hk e => (HGJ.out k hk).2 e)
      case rest =>
        obtain ⟨v5, v6, v7, Gj, Gn, hsrc, R⟩ := hcut
        have HRQ : Hid (recvR h (refSeat h m) m = receiveM h m) := Lib.hid (recvR_eq HFM.out HD.out HST.out)
        generalize hrs : refSeat h m = s at *
        have HFR : Hid (Few s.refuses.length) := Lib.hid (by rw [← hrs]; exact refSeat_few HK.out m)
        have HSO : Hid (SeatOk s ∧ s.letter.size ≤ 1000000000) := Lib.hid (by rw [← hrs]; exact refSeat_ok HK.out m)
        have HRS := Lib.hid hrs
        have HSRC := Lib.hid hsrc
        obtain ⟨r5, r6, r7, rG⟩ := seat_rows R.own
        obtain ⟨a5, c5, rfl, -, -⟩ := r5.slice
        obtain ⟨a6, c6, rfl, -, -⟩ := r6.slice
        obtain ⟨a7, c7, rfl, -, -⟩ := r7.slice
        have HR := Lib.hid R
        have n1 : wc.cell? ⟨sb, 1, none⟩ = some (.int .i64 s.state) := cell_of_block (i := 1) R.box rfl
        have n2 : wc.cell? ⟨sb, 2, none⟩ = some (.int .i64 s.epoch) := cell_of_block (i := 2) R.box rfl
        have n3 : wc.cell? ⟨sb, 3, none⟩ = some (.int .i64 s.peer) := cell_of_block (i := 3) R.box rfl
        have n4 : wc.cell? ⟨sb, 4, none⟩ = some (.string s.letter) := cell_of_block (i := 4) R.box rfl
        have n5 : wc.cell? ⟨sb, 5, none⟩ = some (.slice a5 s.parts.length c5) := cell_of_block (i := 5) R.box rfl
        have n7 : wc.cell? ⟨sb, 7, none⟩ = some (.slice a7 s.refuses.length c7) := cell_of_block (i := 7) R.box rfl
        have k0 : wc.cell? ⟨w.heap.size, 0, none⟩ = some (.int .i64 m.kind) := cell_of_block (i := 0) R.msg rfl
        have k1 : wc.cell? ⟨w.heap.size, 1, none⟩ = some (.int .i64 m.frm) := cell_of_block (i := 1) R.msg rfl
        have k3 : wc.cell? ⟨w.heap.size, 3, none⟩ = some (.string m.page) := cell_of_block (i := 3) R.msg rfl
        have k4 : wc.cell? ⟨w.heap.size, 4, none⟩ = some (.int .i64 m.epoch) := cell_of_block (i := 4) R.msg rfl
        have k5 : wc.cell? ⟨w.heap.size, 5, none⟩ = some (.int .i64 m.index) := cell_of_block (i := 5) R.msg rfl
        have k6 : wc.cell? ⟨w.heap.size, 6, none⟩ = some (.int .i64 m.count) := cell_of_block (i := 6) R.msg rfl
        have HR7 := Lib.hid r7
        have HSQ : Hid (sb = sb) := Lib.hid rfl
        have HEP : Hid (-9223372036854775808 ≤ s.epoch ∧ s.epoch < 9223372036854775807) := Lib.hid (by rw [← hrs]; exact refSeat_epoch HK.out m)
        clear hrs hsrc R r5 r6 r7 rG hsl hsbn HSB HCB HC2 HG2 HLO
        go_upto_region 6 with fail
        go_cut [6] from 39 to 50 (fun u wx => u = .bool (oursB s m) ∧ wc = wx)
        case first =>
          as_aux_lemma =>
            cases e1 : (s.epoch == m.epoch)
            ·
              go_wp2_with fail
              go_meet
              exact ⟨congrArg Value.bool (by simp [oursB, e1]), rfl⟩
            ·
              go_wp2_with fail
              go_meet
              exact ⟨congrArg Value.bool (by simp [oursB, e1]), rfl⟩
        case rest =>
        obtain ⟨rfl, rfl⟩ := hcut
        generalize hours : (oursB s m) = ours at *
        have HOURS := Lib.hid hours
        clear hours
        go_upto_region 7 with fail
        go_cut [7] from 51 to 58 (fun u wx => u = .bool (openB s) ∧ wc = wx)
        case first =>
          as_aux_lemma =>
            cases e1 : (s.state == 0)
            ·
              go_wp2_with fail
              go_meet
              exact ⟨congrArg Value.bool (by simp [openB, e1]), rfl⟩
            ·
              go_wp2_with fail
              go_meet
              exact ⟨congrArg Value.bool (by simp [openB, e1]), rfl⟩
        case rest =>
        obtain ⟨rfl, rfl⟩ := hcut
        generalize hopn : (openB s) = opn at *
        have HOPN := Lib.hid hopn
        clear hopn
        go_upto_region 8 with fail
        go_cut [8] from 59 to 71 (fun u wx => u = .bool (asksB m) ∧ wc = wx)
        case first =>
          as_aux_lemma =>
            cases e1 : (m.kind == 1)
            ·
              cases e2 : (m.kind == 2)
              ·
                go_wp2_with fail
                go_meet
                exact ⟨congrArg Value.bool (by simp [asksB, e1, e2]), rfl⟩
              ·
                go_wp2_with fail
                go_meet
                exact ⟨congrArg Value.bool (by simp [asksB, e1, e2]), rfl⟩
            ·
              go_wp2_with fail
              go_meet
              exact ⟨congrArg Value.bool (by simp [asksB, e1]), rfl⟩
        case rest =>
        obtain ⟨rfl, rfl⟩ := hcut
        generalize hasks : (asksB m) = asks at *
        have HASKS := Lib.hid hasks
        clear hasks
        go_upto_region 9 with fail
        go_cut [9] from 72 to 84 (fun u wx => u = .bool (activeB s) ∧ wc = wx)
        case first =>
          as_aux_lemma =>
            cases e1 : (s.state == 1)
            ·
              cases e2 : (s.state == 2)
              ·
                go_wp2_with fail
                go_meet
                exact ⟨congrArg Value.bool (by simp [activeB, e1, e2]), rfl⟩
              ·
                go_wp2_with fail
                go_meet
                exact ⟨congrArg Value.bool (by simp [activeB, e1, e2]), rfl⟩
            ·
              go_wp2_with fail
              go_meet
              exact ⟨congrArg Value.bool (by simp [activeB, e1]), rfl⟩
        case rest =>
        obtain ⟨rfl, rfl⟩ := hcut
        generalize hact : (activeB s) = act at *
        have HACT := Lib.hid hact
        clear hact
        go_upto_region 10 with fail
        go_cut [10] from 85 to 95 (fun u wx => u = .bool (waitB s m) ∧ wc = wx)
        case first =>
          as_aux_lemma =>
            cases e1 : (s.state == 2)
            ·
              cases e2 : (s.state == 3)
              ·
                go_wp2_with fail
                go_meet
                exact ⟨congrArg Value.bool (by simp [waitB, e1, e2, HOURS.out]), rfl⟩
              ·
                go_wp2_with fail
                go_meet
                exact ⟨congrArg Value.bool (by simp [waitB, e1, e2, HOURS.out]), rfl⟩
            ·
              go_wp2_with fail
              go_meet
              exact ⟨congrArg Value.bool (by simp [waitB, e1, HOURS.out]), rfl⟩
        case rest =>
        obtain ⟨rfl, rfl⟩ := hcut
        generalize hwait : (waitB s m) = wait at *
        have HWAIT := Lib.hid hwait
        clear hwait
        have hfo : Few h.out.length := HK.out.out
        have HFO := Lib.hid hfo
        have HMC := Lib.hid (HR.out.mids.cells HX.out)
        have HGJ := Lib.hid HSRC.out.1
        clear hfo
        go_upto_block 0 with fail
        go_cut [] from 96 to 294 (fun wx => PutRel w wx b o h m s vs F1 F2 sb)
        case first =>
          go_upto_region 11 with fail
          go_cut [96] from 97 to 104 (fun u wx => u = .bool (asks && s.refuses.contains m.epoch) ∧ wc = wx)
          case first =>
            as_aux_lemma =>
              cases asks with
              | false =>
                go_wp2_with fail
                go_meet
                exact ⟨rfl, rfl⟩
              | true =>
                have HHAS := Lib.hid (rhas_any wc (.slice a7 s.refuses.length c7) s.refuses m.epoch (seen_row HR7.out) HFR.out)
                go_wp2_with fail
                refine HHAS.out.mono ?_
                rintro e w4 ⟨rfl, rfl⟩
                go_wp2_with fail
                go_meet
                exact ⟨congrArg Value.bool (by simp), rfl⟩
          case rest =>
          obtain ⟨rfl, rfl⟩ := hcut
          generalize href : (asks && s.refuses.contains m.epoch) = ref at *
          have HREF := Lib.hid href
          clear href
          cases ref with
          | true =>
            as_aux_lemma =>
              have hsay := rsay_any wc b o h.id h.out F2 6 m.frm m.epoch m.page HMC.out.1 HR.out.mids.out HFO.out
              have HSAY := Lib.hid hsay
              clear hsay
              go_wp2_with fail
              refine HSAY.out.mono ?_
              rintro e w9 ⟨rfl, hp⟩
              obtain ⟨G3, M3, -⟩ := HR.out.mids.sent hp
              have HM3 := Lib.hid (M3.done HX.out)
              clear hp M3
              go_wp2_with fail
              refine bodyPost_ret (results_none rfl _ _ _) rfl ?_
              refine ⟨rfl, ?_⟩
              rw [← HRQ.out]
              unfold recvR; rw [HASKS.out, if_pos HREF.out]
              exact HM3.out
          | false =>
          go_upto_region 13 with fail
          go_cut [113] from 114 to 129 (fun u wx => u = .bool (asks && (act || s.state == 5) && decide (m.epoch ≤ s.epoch)) ∧ wc = wx)
          case first =>
            as_aux_lemma =>
              cases asks
              ·
                go_wp2_with fail
                go_meet
                exact ⟨congrArg Value.bool (by rfl), rfl⟩
              ·
                cases act
                ·
                  cases e5 : (s.state == 5)
                  ·
                    go_wp2_with fail
                    go_meet
                    exact ⟨congrArg Value.bool (by rw [e5]; rfl), rfl⟩
                  ·
                    go_wp2_with fail
                    go_meet
                    exact ⟨congrArg Value.bool (by rw [e5]; rfl), rfl⟩
                ·
                  go_wp2_with fail
                  go_meet
                  exact ⟨congrArg Value.bool (by rfl), rfl⟩
          case rest =>
          obtain ⟨rfl, rfl⟩ := hcut
          generalize hold : (asks && (act || s.state == 5) && decide (m.epoch ≤ s.epoch)) = old at *
          have HOLD := Lib.hid hold
          clear hold
          cases old with
          | true =>
            as_aux_lemma =>
              have hsay := rsay_any wc b o h.id h.out F2 4 m.frm m.epoch m.page HMC.out.1 HR.out.mids.out HFO.out
              have HSAY := Lib.hid hsay
              clear hsay
              go_wp2_with fail
              refine HSAY.out.mono ?_
              rintro e w9 ⟨rfl, hp⟩
              obtain ⟨G3, M3, -⟩ := HR.out.mids.sent hp
              have HM3 := Lib.hid (M3.done HX.out)
              clear hp M3
              go_wp2_with fail
              refine bodyPost_ret (results_none rfl _ _ _) rfl ?_
              refine ⟨rfl, ?_⟩
              rw [← HRQ.out]
              unfold recvR; rw [HASKS.out, HACT.out, HREF.out, if_neg (by decide), if_pos HOLD.out]
              exact HM3.out
          | false =>
          go_upto_region 15 with fail
          go_cut [138] from 139 to 152 (fun u wx => u = .bool (m.kind == 5 && (opn || (s.state == 4 && ours))) ∧ wc = wx)
          case first =>
            as_aux_lemma =>
              cases e1 : (m.kind == 5)
              ·
                go_wp2_with fail
                go_meet
                exact ⟨congrArg Value.bool (by rw [e1]; rfl), rfl⟩
              ·
                cases opn
                ·
                  cases e4 : (s.state == 4)
                  ·
                    go_wp2_with fail
                    go_meet
                    exact ⟨congrArg Value.bool (by rw [e1, e4]; rfl), rfl⟩
                  ·
                    go_wp2_with fail
                    go_meet
                    exact ⟨congrArg Value.bool (by rw [e1, e4]; rfl), rfl⟩
                ·
                  go_wp2_with fail
                  go_meet
                  exact ⟨congrArg Value.bool (by rw [e1]; rfl), rfl⟩
          case rest =>
          obtain ⟨rfl, rfl⟩ := hcut
          generalize hcanc : (m.kind == 5 && (opn || (s.state == 4 && ours))) = canc at *
          have HCANC := Lib.hid hcanc
          clear hcanc
          cases canc with
          | true =>
            as_aux_lemma =>
              go_upto_region 16 with fail
              go_cut [] from 153 to 161 (fun wx => ∃ a8 n8 c8 Gn', Rv w wx b o m h.out F2 F2 sb { s with refuses := s.refuses ++ [m.epoch] } (.slice a5 s.parts.length c5) (.slice a6 s.have_.length c6) (.slice a8 n8 c8) Gj Gn')
              case first =>
                refine wp_region_held_split 9 (fun w' => w'.cell? ⟨sb, 7, none⟩ = some (.slice a7 s.refuses.length c7) ∧ w'.cell? ⟨w.heap.size, 4, none⟩ = some (.int .i64 m.epoch)) (by kernel_rfl) (by kernel_rfl) ?_ (fun hHeld => ?_)
                · (first | exact ⟨n7, k4⟩ | exact HKS.out _ (Chg.refl _ _) | exact HKS.out _ HA0.out | exact HKS.out _ HB0.out | exact HKS.out _ HA1.out | exact HKS.out _ HA2.out | exact HKS.out _ hcz | exact HKS.out _ (hcz.allocR _) | exact HKS.out _ hcq)
                simp only [List.take_succ_cons, List.take_zero]
                have n7d : wc.drew.cell? ⟨sb, 7, none⟩ = some (.slice a7 s.refuses.length c7) := n7
                have k4d : wc.drew.cell? ⟨w.heap.size, 4, none⟩ = some (.int .i64 m.epoch) := k4
                have HBOX : Hid (wc.drew.heap[sb]? = some (.cells #[.string s.page, .int .i64 s.state, .int .i64 s.epoch, .int .i64 s.peer, .string s.letter, .slice a5 s.parts.length c5, .slice a6 s.have_.length c6, .slice a7 s.refuses.length c7] 67 (0, 0))) := Lib.hid HR.out.box
                have HR7d : Hid (RowAt wc.drew 3 1 (.slice a7 s.refuses.length c7) s.refuses.length (s.refuses.map (Value.int .i64))) := Lib.hid HR7.out.drew
                have HZ : Hid (wc.drew.heap.size = wc.heap.size) := Lib.hid rfl
                have HCD : Hid (Chg (fun _ => False) wc wc.drew) := Lib.hid (Chg.refl _ wc).drewR
                clear n1 n2 n3 n4 n5 k0 k1 k3 k5 k6 HR7
                generalize hwD : wc.drew = wD at *
                have HWD := Lib.hid hwD
                have HE := Lib.hid elem_int
                have HKS : Hid (∀ W, Chg (fun _ => False) wD W → W.cell? ⟨sb, 7, none⟩ = some (.slice a7 s.refuses.length c7) ∧ W.cell? ⟨w.heap.size, 4, none⟩ = some (.int .i64 m.epoch)) := Lib.hid (fun W hc => ⟨hc.cell n7d, hc.cell k4d⟩)
                have HAa := Lib.hid (RowAt.freshAt wD 3 1 wD.heap.size rfl)
                have HAc := Lib.hid (RowAt.freshAt (wD.alloc (.cells #[.int .i64 m.epoch] 3)) 3 1 (wD.heap.size + 1) (by simp))
                have HBa := Lib.hid (RowAt.singleAt (wD.alloc (.cells #[] 3)) 3 1 (wD.heap.size + 1) #[.int .i64 m.epoch] (by simp) rfl)
                have HBb := Lib.hid ((RowAt.singleAt wD 3 1 wD.heap.size #[.int .i64 m.epoch] rfl rfl).alloc (.cells #[] 3))
                have hOX : Hid (Ones (s.refuses.map (Value.int .i64))) := Lib.hid (fun u hu => by obtain ⟨y, _, rfl⟩ := List.mem_map.1 hu; rfl)
                have hO1 : Hid (Ones [Value.int .i64 m.epoch]) := Lib.hid (fun u hu => by simp only [List.mem_singleton] at hu; subst hu; rfl)
                have HA0 := Lib.hid (Chg.alloc (fun _ => False) wD (.cells #[] 3))
                have HB0 := Lib.hid (Chg.alloc (fun _ => False) wD (.cells #[.int .i64 m.epoch] 3))
                have HA1 := Lib.hid (HA0.out.allocR (.cells #[.int .i64 m.epoch] 3))
                have HA2 := Lib.hid (HB0.out.allocR (.cells #[] 3))
                clear hwD
                refine wpAnyH_take (i := 1) (v := ?_) rfl (by kernel_rfl) (by kernel_rfl) (by kernel_rfl) (fun _ _ _ h => h) (Or.inl ⟨by rfl, ?_⟩) (by assumption) ?_
                rotate_left
                · (intro wq hSw; (try dsimp only at hSw); go_simp; (try with_reducible rfl))
                simp only [Act.put, List.getElem_toArray, List.getElem_cons_zero, List.getElem_cons_succ, List.setIfInBounds_toArray, List.set_cons_zero, List.set_cons_succ]
                refine wpAnyH_take (i := 2) (v := ?_) rfl (by kernel_rfl) (by kernel_rfl) (by kernel_rfl) (fun _ _ _ h => h) (Or.inl ⟨by rfl, ?_⟩) (by assumption) ?_
                rotate_left
                · (intro wq hSw; (try dsimp only at hSw); go_simp; (try with_reducible rfl))
                simp only [Act.put, List.getElem_toArray, List.getElem_cons_zero, List.getElem_cons_succ, List.setIfInBounds_toArray, List.set_cons_zero, List.set_cons_succ]
                refine wpAnyH_take (i := 4) (v := ?_) rfl (by kernel_rfl) (by kernel_rfl) (by kernel_rfl) (fun _ _ _ h => h) (Or.inl ⟨by rfl, ?_⟩) (by assumption) ?_
                rotate_left
                · (intro wq hSw; (try dsimp only at hSw); go_simp; (try with_reducible rfl))
                simp only [Act.put, List.getElem_toArray, List.getElem_cons_zero, List.getElem_cons_succ, List.setIfInBounds_toArray, List.set_cons_zero, List.set_cons_succ]
                refine wpAnyH_take (i := 5) (v := ?_) rfl (by kernel_rfl) (by kernel_rfl) (by kernel_rfl) (fun _ _ _ h => h) (Or.inl ⟨by rfl, ?_⟩) (by assumption) ?_
                rotate_left
                · (intro wq hSw; (try dsimp only at hSw); go_simp; (try with_reducible rfl))
                simp only [Act.put, List.getElem_toArray, List.getElem_cons_zero, List.getElem_cons_succ, List.setIfInBounds_toArray, List.set_cons_zero, List.set_cons_succ]
                refine wpAnyH_ready (rs := [0, 6]) (by kernel_rfl) (by simp) ?_
                refine AllReadyH.cons (by simp only [List.getElem?_toArray, List.getElem?_cons_succ, List.getElem?_cons_zero]; rfl) (fun K hK => ?_) ?_
                · go_simp
                  refine hK.out _ _ ?_ (fun hHeld => ?_)
                  · (first | exact ⟨n7, k4⟩ | exact HKS.out _ (Chg.refl _ _) | exact HKS.out _ HA0.out | exact HKS.out _ HB0.out | exact HKS.out _ HA1.out | exact HKS.out _ HA2.out | exact HKS.out _ hcz | exact HKS.out _ (hcz.allocR _) | exact HKS.out _ hcq)
                  clear hK K
                  (try simp only [Act.put, List.getElem_toArray, List.getElem_cons_zero, List.getElem_cons_succ, List.setIfInBounds_toArray, List.set_cons_zero, List.set_cons_succ])
                  refine wpAnyH_ready (rs := [3, 6]) (by kernel_rfl) (by simp) ?_
                  refine AllReadyH.cons (by simp only [List.getElem?_toArray, List.getElem?_cons_succ, List.getElem?_cons_zero]; rfl) (fun K hK => ?_) ?_
                  · (first | (refine step_append_rows (by rfl) (.tmp 153) (.tmp 155) 65 (by rfl) 3 1 8 Try.underlying65 HE.out (by decide) _ 0 [] (by rfl) HAa.out _ s.refuses.length _ (by rfl) (HR7d.out.alloc _) hOX.out (by have := HFR.out.lt; unfold maxLen; omega) (by have := HFR.out.lt; omega) ?_; intro a2 n2 c2 w2 hrow2 hch2 hold2; have hcz := HA0.out.fresh hch2 (own_at (Nat.le_refl wD.heap.size)); rw [Nat.zero_add, List.nil_append] at hrow2; have hn2 := own_ge hold2 (own_at (Nat.le_refl wD.heap.size)) HA0.out.size) | (refine step_append_rows (by rfl) (.tmp 153) (.tmp 155) 65 (by rfl) 3 1 8 Try.underlying65 HE.out (by decide) _ 0 [] (by rfl) (HAa.out.alloc _) _ s.refuses.length _ (by rfl) ((HR7d.out.alloc _).alloc _) hOX.out (by have := HFR.out.lt; unfold maxLen; omega) (by have := HFR.out.lt; omega) ?_; intro a2 n2 c2 w2 hrow2 hch2 hold2; have hcz := HA1.out.fresh hch2 (own_at (Nat.le_refl wD.heap.size)); rw [Nat.zero_add, List.nil_append] at hrow2; have hn2 := own_ge hold2 (own_at (Nat.le_refl wD.heap.size)) HA1.out.size; have hB2 := HBa.out.chg hch2 (own_ne (Nat.succ_ne_self wD.heap.size))) | (refine step_append_rows (by rfl) (.tmp 153) (.tmp 155) 65 (by rfl) 3 1 8 Try.underlying65 HE.out (by decide) _ 0 [] (by rfl) HAc.out _ s.refuses.length _ (by rfl) ((HR7d.out.alloc _).alloc _) hOX.out (by have := HFR.out.lt; unfold maxLen; omega) (by have := HFR.out.lt; omega) ?_; intro a2 n2 c2 w2 hrow2 hch2 hold2; have hcz := HA2.out.fresh hch2 (own_at (Nat.le_succ wD.heap.size)); rw [Nat.zero_add, List.nil_append] at hrow2; have hn2 := own_ge hold2 (own_at (Nat.le_succ wD.heap.size)) HA2.out.size; have hB2 := HBb.out.chg hch2 (own_ne (Nat.succ_ne_self wD.heap.size).symm)) | (refine step_append_rows (by rfl) (.tmp 156) (.tmp 159) 65 (by rfl) 3 1 8 Try.underlying65 HE.out (by decide) _ s.refuses.length _ (by rfl) hrow2 _ 1 _ (by rfl) hB2 hO1.out (by have := HFR.out.lt; unfold maxLen; omega) (by have := HFR.out.lt; omega) ?_; intro a3 n3 c3 w3 hrow3 hch3 hold3; have hcq := hcz.fresh hch3 hn2; have hn3 := own_ge hold3 hn2 hcz.size; clear hcz) | (refine step_append_rows (by rfl) (.tmp 156) (.tmp 159) 65 (by rfl) 3 1 8 Try.underlying65 HE.out (by decide) _ s.refuses.length _ (by rfl) (hrow2.alloc _) _ 1 _ (by rfl) (RowAt.singleAt w2 3 1 w2.heap.size #[.int .i64 m.epoch] rfl rfl) hO1.out (by have := HFR.out.lt; unfold maxLen; omega) (by have := HFR.out.lt; omega) ?_; intro a3 n3 c3 w3 hrow3 hch3 hold3; have hcq := (hcz.allocR _).fresh hch3 hn2; have hn3 := own_ge hold3 hn2 (hcz.allocR _).size; clear hcz))
                    refine hK.out _ _ ?_ (fun hHeld => ?_)
                    · (first | exact ⟨n7, k4⟩ | exact HKS.out _ (Chg.refl _ _) | exact HKS.out _ HA0.out | exact HKS.out _ HB0.out | exact HKS.out _ HA1.out | exact HKS.out _ HA2.out | exact HKS.out _ hcz | exact HKS.out _ (hcz.allocR _) | exact HKS.out _ hcq)
                    clear hK K
                    (try simp only [Act.put, List.getElem_toArray, List.getElem_cons_zero, List.getElem_cons_succ, List.setIfInBounds_toArray, List.set_cons_zero, List.set_cons_succ])
                    refine wpAnyH_ready (rs := [6]) (by kernel_rfl) (by simp) ?_
                    refine AllReadyH.cons (by simp only [List.getElem?_toArray, List.getElem?_cons_succ, List.getElem?_cons_zero]; rfl) (fun K hK => ?_) AllReadyH.nil
                    go_simp
                    refine hK.out _ _ ?_ (fun hHeld => ?_)
                    · (first | exact ⟨n7, k4⟩ | exact HKS.out _ (Chg.refl _ _) | exact HKS.out _ HA0.out | exact HKS.out _ HB0.out | exact HKS.out _ HA1.out | exact HKS.out _ HA2.out | exact HKS.out _ hcz | exact HKS.out _ (hcz.allocR _) | exact HKS.out _ hcq)
                    clear hK K
                    (try simp only [Act.put, List.getElem_toArray, List.getElem_cons_zero, List.getElem_cons_succ, List.setIfInBounds_toArray, List.set_cons_zero, List.set_cons_succ])
                    refine wpAnyH_ready (rs := [7]) (by kernel_rfl) (by simp) ?_
                    refine AllReadyH.cons (by simp only [List.getElem?_toArray, List.getElem?_cons_succ, List.getElem?_cons_zero]; rfl) (fun K hK => ?_) AllReadyH.nil
                    (first | (refine step_append_rows (by rfl) (.tmp 153) (.tmp 155) 65 (by rfl) 3 1 8 Try.underlying65 HE.out (by decide) _ 0 [] (by rfl) HAa.out _ s.refuses.length _ (by rfl) (HR7d.out.alloc _) hOX.out (by have := HFR.out.lt; unfold maxLen; omega) (by have := HFR.out.lt; omega) ?_; intro a2 n2 c2 w2 hrow2 hch2 hold2; have hcz := HA0.out.fresh hch2 (own_at (Nat.le_refl wD.heap.size)); rw [Nat.zero_add, List.nil_append] at hrow2; have hn2 := own_ge hold2 (own_at (Nat.le_refl wD.heap.size)) HA0.out.size) | (refine step_append_rows (by rfl) (.tmp 153) (.tmp 155) 65 (by rfl) 3 1 8 Try.underlying65 HE.out (by decide) _ 0 [] (by rfl) (HAa.out.alloc _) _ s.refuses.length _ (by rfl) ((HR7d.out.alloc _).alloc _) hOX.out (by have := HFR.out.lt; unfold maxLen; omega) (by have := HFR.out.lt; omega) ?_; intro a2 n2 c2 w2 hrow2 hch2 hold2; have hcz := HA1.out.fresh hch2 (own_at (Nat.le_refl wD.heap.size)); rw [Nat.zero_add, List.nil_append] at hrow2; have hn2 := own_ge hold2 (own_at (Nat.le_refl wD.heap.size)) HA1.out.size; have hB2 := HBa.out.chg hch2 (own_ne (Nat.succ_ne_self wD.heap.size))) | (refine step_append_rows (by rfl) (.tmp 153) (.tmp 155) 65 (by rfl) 3 1 8 Try.underlying65 HE.out (by decide) _ 0 [] (by rfl) HAc.out _ s.refuses.length _ (by rfl) ((HR7d.out.alloc _).alloc _) hOX.out (by have := HFR.out.lt; unfold maxLen; omega) (by have := HFR.out.lt; omega) ?_; intro a2 n2 c2 w2 hrow2 hch2 hold2; have hcz := HA2.out.fresh hch2 (own_at (Nat.le_succ wD.heap.size)); rw [Nat.zero_add, List.nil_append] at hrow2; have hn2 := own_ge hold2 (own_at (Nat.le_succ wD.heap.size)) HA2.out.size; have hB2 := HBb.out.chg hch2 (own_ne (Nat.succ_ne_self wD.heap.size).symm)) | (refine step_append_rows (by rfl) (.tmp 156) (.tmp 159) 65 (by rfl) 3 1 8 Try.underlying65 HE.out (by decide) _ s.refuses.length _ (by rfl) hrow2 _ 1 _ (by rfl) hB2 hO1.out (by have := HFR.out.lt; unfold maxLen; omega) (by have := HFR.out.lt; omega) ?_; intro a3 n3 c3 w3 hrow3 hch3 hold3; have hcq := hcz.fresh hch3 hn2; have hn3 := own_ge hold3 hn2 hcz.size; clear hcz) | (refine step_append_rows (by rfl) (.tmp 156) (.tmp 159) 65 (by rfl) 3 1 8 Try.underlying65 HE.out (by decide) _ s.refuses.length _ (by rfl) (hrow2.alloc _) _ 1 _ (by rfl) (RowAt.singleAt w2 3 1 w2.heap.size #[.int .i64 m.epoch] rfl rfl) hO1.out (by have := HFR.out.lt; unfold maxLen; omega) (by have := HFR.out.lt; omega) ?_; intro a3 n3 c3 w3 hrow3 hch3 hold3; have hcq := (hcz.allocR _).fresh hch3 hn2; have hn3 := own_ge hold3 hn2 (hcz.allocR _).size; clear hcz))
                    refine hK.out _ _ ?_ (fun hHeld => ?_)
                    · (first | exact ⟨n7, k4⟩ | exact HKS.out _ (Chg.refl _ _) | exact HKS.out _ HA0.out | exact HKS.out _ HB0.out | exact HKS.out _ HA1.out | exact HKS.out _ HA2.out | exact HKS.out _ hcz | exact HKS.out _ (hcz.allocR _) | exact HKS.out _ hcq)
                    clear hK K
                    (try simp only [Act.put, List.getElem_toArray, List.getElem_cons_zero, List.getElem_cons_succ, List.setIfInBounds_toArray, List.set_cons_zero, List.set_cons_succ])
                    refine wpAnyH_take (i := 8) (v := ?_) rfl (by kernel_rfl) (by kernel_rfl) (by kernel_rfl) (fun _ _ _ h => h) (Or.inl ⟨by rfl, ?_⟩) (by assumption) ?_
                    rotate_left
                    · (intro wq hSw; (try dsimp only at hSw); go_simp; (try with_reducible rfl))
                    simp only [Act.put, List.getElem_toArray, List.getElem_cons_zero, List.getElem_cons_succ, List.setIfInBounds_toArray, List.set_cons_zero, List.set_cons_succ]
                    refine wpAnyH_done (by kernel_rfl) ?_ _
                    change wpList _ _ _ _ _ _
                    simp only [List.drop_succ_cons, List.drop_zero]
                    have hbq := hcq.keep HBOX.out (fun x => x)
                    have q7 := cell_of_block (i := 7) hbq rfl
                    have f7 := frozen_of_block (i := 7) hbq
                    have HBQ := Lib.hid hbq
                    have HCQ := Lib.hid hcq
                    have HROW := Lib.hid hrow3
                    have HN3 := Lib.hid hn3
                    clear hbq hcq hrow3 hn3 hrow2 hch2 hold2 hch3 hold3 hn2 n7d k4d
                    go_wp2_with fail
                    go_meet
                    have hset := Chg.setCell w3 ⟨sb, 7, none⟩ (.slice a3 n3 c3)
                    have hb3 := setCell_block (i := 7) (.slice a3 n3 c3) HBQ.out
                    have hszc : wc.heap.size ≤ wD.heap.size := by rw [HZ.out]; exact Nat.le_refl _
                    have hch := (HCD.out.trans' HCQ.out).mono (S' := (· = sb)) (fun _ _ x => x.elim)
                    have hcf := hch.trans hset (fun _ _ x => x) (fun _ _ x => x)
                    have hold := HR.out.old
                    have hdis := HR.out.dis
                    have hr3 := HROW.out.chg hset (fun k hk e => by have h1 := HN3.out k hk; have h2 := lt_of_block HR.out.box; have e' : k = sb := e; omega)
                    obtain ⟨Gn', R'⟩ := HR.out.next HX.out (y := { s with refuses := s.refuses ++ [m.epoch] }) hcf hb3 (HR.out.keep5 hcf) (HR.out.keep6 hcf) (by simpa using hr3) (fun k hk => .inl hk) (fun k hk => .inl hk) (fun k hk => .inr (Nat.le_trans hszc (HN3.out k hk))) hdis.1 (fun k h1 h2 => by have e1 := hold.1 k h1; have e2 := HN3.out k h2; omega) (fun k h1 h2 => by have e1 := hold.2.1 k h1; have e2 := HN3.out k h2; omega)
                    exact ⟨_, _, _, Gn', R'⟩
                  refine AllReadyH.cons (by simp only [List.getElem?_toArray, List.getElem?_cons_succ, List.getElem?_cons_zero]; rfl) (fun K hK => ?_) ?_
                  · go_simp
                    refine hK.out _ _ ?_ (fun hHeld => ?_)
                    · (first | exact ⟨n7, k4⟩ | exact HKS.out _ (Chg.refl _ _) | exact HKS.out _ HA0.out | exact HKS.out _ HB0.out | exact HKS.out _ HA1.out | exact HKS.out _ HA2.out | exact HKS.out _ hcz | exact HKS.out _ (hcz.allocR _) | exact HKS.out _ hcq)
                    clear hK K
                    (try simp only [Act.put, List.getElem_toArray, List.getElem_cons_zero, List.getElem_cons_succ, List.setIfInBounds_toArray, List.set_cons_zero, List.set_cons_succ])
                    refine wpAnyH_ready (rs := [3]) (by kernel_rfl) (by simp) ?_
                    refine AllReadyH.cons (by simp only [List.getElem?_toArray, List.getElem?_cons_succ, List.getElem?_cons_zero]; rfl) (fun K hK => ?_) AllReadyH.nil
                    (first | (refine step_append_rows (by rfl) (.tmp 153) (.tmp 155) 65 (by rfl) 3 1 8 Try.underlying65 HE.out (by decide) _ 0 [] (by rfl) HAa.out _ s.refuses.length _ (by rfl) (HR7d.out.alloc _) hOX.out (by have := HFR.out.lt; unfold maxLen; omega) (by have := HFR.out.lt; omega) ?_; intro a2 n2 c2 w2 hrow2 hch2 hold2; have hcz := HA0.out.fresh hch2 (own_at (Nat.le_refl wD.heap.size)); rw [Nat.zero_add, List.nil_append] at hrow2; have hn2 := own_ge hold2 (own_at (Nat.le_refl wD.heap.size)) HA0.out.size) | (refine step_append_rows (by rfl) (.tmp 153) (.tmp 155) 65 (by rfl) 3 1 8 Try.underlying65 HE.out (by decide) _ 0 [] (by rfl) (HAa.out.alloc _) _ s.refuses.length _ (by rfl) ((HR7d.out.alloc _).alloc _) hOX.out (by have := HFR.out.lt; unfold maxLen; omega) (by have := HFR.out.lt; omega) ?_; intro a2 n2 c2 w2 hrow2 hch2 hold2; have hcz := HA1.out.fresh hch2 (own_at (Nat.le_refl wD.heap.size)); rw [Nat.zero_add, List.nil_append] at hrow2; have hn2 := own_ge hold2 (own_at (Nat.le_refl wD.heap.size)) HA1.out.size; have hB2 := HBa.out.chg hch2 (own_ne (Nat.succ_ne_self wD.heap.size))) | (refine step_append_rows (by rfl) (.tmp 153) (.tmp 155) 65 (by rfl) 3 1 8 Try.underlying65 HE.out (by decide) _ 0 [] (by rfl) HAc.out _ s.refuses.length _ (by rfl) ((HR7d.out.alloc _).alloc _) hOX.out (by have := HFR.out.lt; unfold maxLen; omega) (by have := HFR.out.lt; omega) ?_; intro a2 n2 c2 w2 hrow2 hch2 hold2; have hcz := HA2.out.fresh hch2 (own_at (Nat.le_succ wD.heap.size)); rw [Nat.zero_add, List.nil_append] at hrow2; have hn2 := own_ge hold2 (own_at (Nat.le_succ wD.heap.size)) HA2.out.size; have hB2 := HBb.out.chg hch2 (own_ne (Nat.succ_ne_self wD.heap.size).symm)) | (refine step_append_rows (by rfl) (.tmp 156) (.tmp 159) 65 (by rfl) 3 1 8 Try.underlying65 HE.out (by decide) _ s.refuses.length _ (by rfl) hrow2 _ 1 _ (by rfl) hB2 hO1.out (by have := HFR.out.lt; unfold maxLen; omega) (by have := HFR.out.lt; omega) ?_; intro a3 n3 c3 w3 hrow3 hch3 hold3; have hcq := hcz.fresh hch3 hn2; have hn3 := own_ge hold3 hn2 hcz.size; clear hcz) | (refine step_append_rows (by rfl) (.tmp 156) (.tmp 159) 65 (by rfl) 3 1 8 Try.underlying65 HE.out (by decide) _ s.refuses.length _ (by rfl) (hrow2.alloc _) _ 1 _ (by rfl) (RowAt.singleAt w2 3 1 w2.heap.size #[.int .i64 m.epoch] rfl rfl) hO1.out (by have := HFR.out.lt; unfold maxLen; omega) (by have := HFR.out.lt; omega) ?_; intro a3 n3 c3 w3 hrow3 hch3 hold3; have hcq := (hcz.allocR _).fresh hch3 hn2; have hn3 := own_ge hold3 hn2 (hcz.allocR _).size; clear hcz))
                    refine hK.out _ _ ?_ (fun hHeld => ?_)
                    · (first | exact ⟨n7, k4⟩ | exact HKS.out _ (Chg.refl _ _) | exact HKS.out _ HA0.out | exact HKS.out _ HB0.out | exact HKS.out _ HA1.out | exact HKS.out _ HA2.out | exact HKS.out _ hcz | exact HKS.out _ (hcz.allocR _) | exact HKS.out _ hcq)
                    clear hK K
                    (try simp only [Act.put, List.getElem_toArray, List.getElem_cons_zero, List.getElem_cons_succ, List.setIfInBounds_toArray, List.set_cons_zero, List.set_cons_succ])
                    refine wpAnyH_ready (rs := [7]) (by kernel_rfl) (by simp) ?_
                    refine AllReadyH.cons (by simp only [List.getElem?_toArray, List.getElem?_cons_succ, List.getElem?_cons_zero]; rfl) (fun K hK => ?_) AllReadyH.nil
                    (first | (refine step_append_rows (by rfl) (.tmp 153) (.tmp 155) 65 (by rfl) 3 1 8 Try.underlying65 HE.out (by decide) _ 0 [] (by rfl) HAa.out _ s.refuses.length _ (by rfl) (HR7d.out.alloc _) hOX.out (by have := HFR.out.lt; unfold maxLen; omega) (by have := HFR.out.lt; omega) ?_; intro a2 n2 c2 w2 hrow2 hch2 hold2; have hcz := HA0.out.fresh hch2 (own_at (Nat.le_refl wD.heap.size)); rw [Nat.zero_add, List.nil_append] at hrow2; have hn2 := own_ge hold2 (own_at (Nat.le_refl wD.heap.size)) HA0.out.size) | (refine step_append_rows (by rfl) (.tmp 153) (.tmp 155) 65 (by rfl) 3 1 8 Try.underlying65 HE.out (by decide) _ 0 [] (by rfl) (HAa.out.alloc _) _ s.refuses.length _ (by rfl) ((HR7d.out.alloc _).alloc _) hOX.out (by have := HFR.out.lt; unfold maxLen; omega) (by have := HFR.out.lt; omega) ?_; intro a2 n2 c2 w2 hrow2 hch2 hold2; have hcz := HA1.out.fresh hch2 (own_at (Nat.le_refl wD.heap.size)); rw [Nat.zero_add, List.nil_append] at hrow2; have hn2 := own_ge hold2 (own_at (Nat.le_refl wD.heap.size)) HA1.out.size; have hB2 := HBa.out.chg hch2 (own_ne (Nat.succ_ne_self wD.heap.size))) | (refine step_append_rows (by rfl) (.tmp 153) (.tmp 155) 65 (by rfl) 3 1 8 Try.underlying65 HE.out (by decide) _ 0 [] (by rfl) HAc.out _ s.refuses.length _ (by rfl) ((HR7d.out.alloc _).alloc _) hOX.out (by have := HFR.out.lt; unfold maxLen; omega) (by have := HFR.out.lt; omega) ?_; intro a2 n2 c2 w2 hrow2 hch2 hold2; have hcz := HA2.out.fresh hch2 (own_at (Nat.le_succ wD.heap.size)); rw [Nat.zero_add, List.nil_append] at hrow2; have hn2 := own_ge hold2 (own_at (Nat.le_succ wD.heap.size)) HA2.out.size; have hB2 := HBb.out.chg hch2 (own_ne (Nat.succ_ne_self wD.heap.size).symm)) | (refine step_append_rows (by rfl) (.tmp 156) (.tmp 159) 65 (by rfl) 3 1 8 Try.underlying65 HE.out (by decide) _ s.refuses.length _ (by rfl) hrow2 _ 1 _ (by rfl) hB2 hO1.out (by have := HFR.out.lt; unfold maxLen; omega) (by have := HFR.out.lt; omega) ?_; intro a3 n3 c3 w3 hrow3 hch3 hold3; have hcq := hcz.fresh hch3 hn2; have hn3 := own_ge hold3 hn2 hcz.size; clear hcz) | (refine step_append_rows (by rfl) (.tmp 156) (.tmp 159) 65 (by rfl) 3 1 8 Try.underlying65 HE.out (by decide) _ s.refuses.length _ (by rfl) (hrow2.alloc _) _ 1 _ (by rfl) (RowAt.singleAt w2 3 1 w2.heap.size #[.int .i64 m.epoch] rfl rfl) hO1.out (by have := HFR.out.lt; unfold maxLen; omega) (by have := HFR.out.lt; omega) ?_; intro a3 n3 c3 w3 hrow3 hch3 hold3; have hcq := (hcz.allocR _).fresh hch3 hn2; have hn3 := own_ge hold3 hn2 (hcz.allocR _).size; clear hcz))
                    refine hK.out _ _ ?_ (fun hHeld => ?_)
                    · (first | exact ⟨n7, k4⟩ | exact HKS.out _ (Chg.refl _ _) | exact HKS.out _ HA0.out | exact HKS.out _ HB0.out | exact HKS.out _ HA1.out | exact HKS.out _ HA2.out | exact HKS.out _ hcz | exact HKS.out _ (hcz.allocR _) | exact HKS.out _ hcq)
                    clear hK K
                    (try simp only [Act.put, List.getElem_toArray, List.getElem_cons_zero, List.getElem_cons_succ, List.setIfInBounds_toArray, List.set_cons_zero, List.set_cons_succ])
                    refine wpAnyH_take (i := 8) (v := ?_) rfl (by kernel_rfl) (by kernel_rfl) (by kernel_rfl) (fun _ _ _ h => h) (Or.inl ⟨by rfl, ?_⟩) (by assumption) ?_
                    rotate_left
                    · (intro wq hSw; (try dsimp only at hSw); go_simp; (try with_reducible rfl))
                    simp only [Act.put, List.getElem_toArray, List.getElem_cons_zero, List.getElem_cons_succ, List.setIfInBounds_toArray, List.set_cons_zero, List.set_cons_succ]
                    refine wpAnyH_done (by kernel_rfl) ?_ _
                    change wpList _ _ _ _ _ _
                    simp only [List.drop_succ_cons, List.drop_zero]
                    have hbq := hcq.keep HBOX.out (fun x => x)
                    have q7 := cell_of_block (i := 7) hbq rfl
                    have f7 := frozen_of_block (i := 7) hbq
                    have HBQ := Lib.hid hbq
                    have HCQ := Lib.hid hcq
                    have HROW := Lib.hid hrow3
                    have HN3 := Lib.hid hn3
                    clear hbq hcq hrow3 hn3 hrow2 hch2 hold2 hch3 hold3 hn2 n7d k4d
                    go_wp2_with fail
                    go_meet
                    have hset := Chg.setCell w3 ⟨sb, 7, none⟩ (.slice a3 n3 c3)
                    have hb3 := setCell_block (i := 7) (.slice a3 n3 c3) HBQ.out
                    have hszc : wc.heap.size ≤ wD.heap.size := by rw [HZ.out]; exact Nat.le_refl _
                    have hch := (HCD.out.trans' HCQ.out).mono (S' := (· = sb)) (fun _ _ x => x.elim)
                    have hcf := hch.trans hset (fun _ _ x => x) (fun _ _ x => x)
                    have hold := HR.out.old
                    have hdis := HR.out.dis
                    have hr3 := HROW.out.chg hset (fun k hk e => by have h1 := HN3.out k hk; have h2 := lt_of_block HR.out.box; have e' : k = sb := e; omega)
                    obtain ⟨Gn', R'⟩ := HR.out.next HX.out (y := { s with refuses := s.refuses ++ [m.epoch] }) hcf hb3 (HR.out.keep5 hcf) (HR.out.keep6 hcf) (by simpa using hr3) (fun k hk => .inl hk) (fun k hk => .inl hk) (fun k hk => .inr (Nat.le_trans hszc (HN3.out k hk))) hdis.1 (fun k h1 h2 => by have e1 := hold.1 k h1; have e2 := HN3.out k h2; omega) (fun k h1 h2 => by have e1 := hold.2.1 k h1; have e2 := HN3.out k h2; omega)
                    exact ⟨_, _, _, Gn', R'⟩
                  exact AllReadyH.nil
                refine AllReadyH.cons (by simp only [List.getElem?_toArray, List.getElem?_cons_succ, List.getElem?_cons_zero]; rfl) (fun K hK => ?_) ?_
                · go_simp
                  refine hK.out _ _ ?_ (fun hHeld => ?_)
                  · (first | exact ⟨n7, k4⟩ | exact HKS.out _ (Chg.refl _ _) | exact HKS.out _ HA0.out | exact HKS.out _ HB0.out | exact HKS.out _ HA1.out | exact HKS.out _ HA2.out | exact HKS.out _ hcz | exact HKS.out _ (hcz.allocR _) | exact HKS.out _ hcq)
                  clear hK K
                  (try simp only [Act.put, List.getElem_toArray, List.getElem_cons_zero, List.getElem_cons_succ, List.setIfInBounds_toArray, List.set_cons_zero, List.set_cons_succ])
                  refine wpAnyH_ready (rs := [0]) (by kernel_rfl) (by simp) ?_
                  refine AllReadyH.cons (by simp only [List.getElem?_toArray, List.getElem?_cons_succ, List.getElem?_cons_zero]; rfl) (fun K hK => ?_) AllReadyH.nil
                  go_simp
                  refine hK.out _ _ ?_ (fun hHeld => ?_)
                  · (first | exact ⟨n7, k4⟩ | exact HKS.out _ (Chg.refl _ _) | exact HKS.out _ HA0.out | exact HKS.out _ HB0.out | exact HKS.out _ HA1.out | exact HKS.out _ HA2.out | exact HKS.out _ hcz | exact HKS.out _ (hcz.allocR _) | exact HKS.out _ hcq)
                  clear hK K
                  (try simp only [Act.put, List.getElem_toArray, List.getElem_cons_zero, List.getElem_cons_succ, List.setIfInBounds_toArray, List.set_cons_zero, List.set_cons_succ])
                  refine wpAnyH_ready (rs := [3]) (by kernel_rfl) (by simp) ?_
                  refine AllReadyH.cons (by simp only [List.getElem?_toArray, List.getElem?_cons_succ, List.getElem?_cons_zero]; rfl) (fun K hK => ?_) AllReadyH.nil
                  (first | (refine step_append_rows (by rfl) (.tmp 153) (.tmp 155) 65 (by rfl) 3 1 8 Try.underlying65 HE.out (by decide) _ 0 [] (by rfl) HAa.out _ s.refuses.length _ (by rfl) (HR7d.out.alloc _) hOX.out (by have := HFR.out.lt; unfold maxLen; omega) (by have := HFR.out.lt; omega) ?_; intro a2 n2 c2 w2 hrow2 hch2 hold2; have hcz := HA0.out.fresh hch2 (own_at (Nat.le_refl wD.heap.size)); rw [Nat.zero_add, List.nil_append] at hrow2; have hn2 := own_ge hold2 (own_at (Nat.le_refl wD.heap.size)) HA0.out.size) | (refine step_append_rows (by rfl) (.tmp 153) (.tmp 155) 65 (by rfl) 3 1 8 Try.underlying65 HE.out (by decide) _ 0 [] (by rfl) (HAa.out.alloc _) _ s.refuses.length _ (by rfl) ((HR7d.out.alloc _).alloc _) hOX.out (by have := HFR.out.lt; unfold maxLen; omega) (by have := HFR.out.lt; omega) ?_; intro a2 n2 c2 w2 hrow2 hch2 hold2; have hcz := HA1.out.fresh hch2 (own_at (Nat.le_refl wD.heap.size)); rw [Nat.zero_add, List.nil_append] at hrow2; have hn2 := own_ge hold2 (own_at (Nat.le_refl wD.heap.size)) HA1.out.size; have hB2 := HBa.out.chg hch2 (own_ne (Nat.succ_ne_self wD.heap.size))) | (refine step_append_rows (by rfl) (.tmp 153) (.tmp 155) 65 (by rfl) 3 1 8 Try.underlying65 HE.out (by decide) _ 0 [] (by rfl) HAc.out _ s.refuses.length _ (by rfl) ((HR7d.out.alloc _).alloc _) hOX.out (by have := HFR.out.lt; unfold maxLen; omega) (by have := HFR.out.lt; omega) ?_; intro a2 n2 c2 w2 hrow2 hch2 hold2; have hcz := HA2.out.fresh hch2 (own_at (Nat.le_succ wD.heap.size)); rw [Nat.zero_add, List.nil_append] at hrow2; have hn2 := own_ge hold2 (own_at (Nat.le_succ wD.heap.size)) HA2.out.size; have hB2 := HBb.out.chg hch2 (own_ne (Nat.succ_ne_self wD.heap.size).symm)) | (refine step_append_rows (by rfl) (.tmp 156) (.tmp 159) 65 (by rfl) 3 1 8 Try.underlying65 HE.out (by decide) _ s.refuses.length _ (by rfl) hrow2 _ 1 _ (by rfl) hB2 hO1.out (by have := HFR.out.lt; unfold maxLen; omega) (by have := HFR.out.lt; omega) ?_; intro a3 n3 c3 w3 hrow3 hch3 hold3; have hcq := hcz.fresh hch3 hn2; have hn3 := own_ge hold3 hn2 hcz.size; clear hcz) | (refine step_append_rows (by rfl) (.tmp 156) (.tmp 159) 65 (by rfl) 3 1 8 Try.underlying65 HE.out (by decide) _ s.refuses.length _ (by rfl) (hrow2.alloc _) _ 1 _ (by rfl) (RowAt.singleAt w2 3 1 w2.heap.size #[.int .i64 m.epoch] rfl rfl) hO1.out (by have := HFR.out.lt; unfold maxLen; omega) (by have := HFR.out.lt; omega) ?_; intro a3 n3 c3 w3 hrow3 hch3 hold3; have hcq := (hcz.allocR _).fresh hch3 hn2; have hn3 := own_ge hold3 hn2 (hcz.allocR _).size; clear hcz))
                  refine hK.out _ _ ?_ (fun hHeld => ?_)
                  · (first | exact ⟨n7, k4⟩ | exact HKS.out _ (Chg.refl _ _) | exact HKS.out _ HA0.out | exact HKS.out _ HB0.out | exact HKS.out _ HA1.out | exact HKS.out _ HA2.out | exact HKS.out _ hcz | exact HKS.out _ (hcz.allocR _) | exact HKS.out _ hcq)
                  clear hK K
                  (try simp only [Act.put, List.getElem_toArray, List.getElem_cons_zero, List.getElem_cons_succ, List.setIfInBounds_toArray, List.set_cons_zero, List.set_cons_succ])
                  refine wpAnyH_ready (rs := [7]) (by kernel_rfl) (by simp) ?_
                  refine AllReadyH.cons (by simp only [List.getElem?_toArray, List.getElem?_cons_succ, List.getElem?_cons_zero]; rfl) (fun K hK => ?_) AllReadyH.nil
                  (first | (refine step_append_rows (by rfl) (.tmp 153) (.tmp 155) 65 (by rfl) 3 1 8 Try.underlying65 HE.out (by decide) _ 0 [] (by rfl) HAa.out _ s.refuses.length _ (by rfl) (HR7d.out.alloc _) hOX.out (by have := HFR.out.lt; unfold maxLen; omega) (by have := HFR.out.lt; omega) ?_; intro a2 n2 c2 w2 hrow2 hch2 hold2; have hcz := HA0.out.fresh hch2 (own_at (Nat.le_refl wD.heap.size)); rw [Nat.zero_add, List.nil_append] at hrow2; have hn2 := own_ge hold2 (own_at (Nat.le_refl wD.heap.size)) HA0.out.size) | (refine step_append_rows (by rfl) (.tmp 153) (.tmp 155) 65 (by rfl) 3 1 8 Try.underlying65 HE.out (by decide) _ 0 [] (by rfl) (HAa.out.alloc _) _ s.refuses.length _ (by rfl) ((HR7d.out.alloc _).alloc _) hOX.out (by have := HFR.out.lt; unfold maxLen; omega) (by have := HFR.out.lt; omega) ?_; intro a2 n2 c2 w2 hrow2 hch2 hold2; have hcz := HA1.out.fresh hch2 (own_at (Nat.le_refl wD.heap.size)); rw [Nat.zero_add, List.nil_append] at hrow2; have hn2 := own_ge hold2 (own_at (Nat.le_refl wD.heap.size)) HA1.out.size; have hB2 := HBa.out.chg hch2 (own_ne (Nat.succ_ne_self wD.heap.size))) | (refine step_append_rows (by rfl) (.tmp 153) (.tmp 155) 65 (by rfl) 3 1 8 Try.underlying65 HE.out (by decide) _ 0 [] (by rfl) HAc.out _ s.refuses.length _ (by rfl) ((HR7d.out.alloc _).alloc _) hOX.out (by have := HFR.out.lt; unfold maxLen; omega) (by have := HFR.out.lt; omega) ?_; intro a2 n2 c2 w2 hrow2 hch2 hold2; have hcz := HA2.out.fresh hch2 (own_at (Nat.le_succ wD.heap.size)); rw [Nat.zero_add, List.nil_append] at hrow2; have hn2 := own_ge hold2 (own_at (Nat.le_succ wD.heap.size)) HA2.out.size; have hB2 := HBb.out.chg hch2 (own_ne (Nat.succ_ne_self wD.heap.size).symm)) | (refine step_append_rows (by rfl) (.tmp 156) (.tmp 159) 65 (by rfl) 3 1 8 Try.underlying65 HE.out (by decide) _ s.refuses.length _ (by rfl) hrow2 _ 1 _ (by rfl) hB2 hO1.out (by have := HFR.out.lt; unfold maxLen; omega) (by have := HFR.out.lt; omega) ?_; intro a3 n3 c3 w3 hrow3 hch3 hold3; have hcq := hcz.fresh hch3 hn2; have hn3 := own_ge hold3 hn2 hcz.size; clear hcz) | (refine step_append_rows (by rfl) (.tmp 156) (.tmp 159) 65 (by rfl) 3 1 8 Try.underlying65 HE.out (by decide) _ s.refuses.length _ (by rfl) (hrow2.alloc _) _ 1 _ (by rfl) (RowAt.singleAt w2 3 1 w2.heap.size #[.int .i64 m.epoch] rfl rfl) hO1.out (by have := HFR.out.lt; unfold maxLen; omega) (by have := HFR.out.lt; omega) ?_; intro a3 n3 c3 w3 hrow3 hch3 hold3; have hcq := (hcz.allocR _).fresh hch3 hn2; have hn3 := own_ge hold3 hn2 (hcz.allocR _).size; clear hcz))
                  refine hK.out _ _ ?_ (fun hHeld => ?_)
                  · (first | exact ⟨n7, k4⟩ | exact HKS.out _ (Chg.refl _ _) | exact HKS.out _ HA0.out | exact HKS.out _ HB0.out | exact HKS.out _ HA1.out | exact HKS.out _ HA2.out | exact HKS.out _ hcz | exact HKS.out _ (hcz.allocR _) | exact HKS.out _ hcq)
                  clear hK K
                  (try simp only [Act.put, List.getElem_toArray, List.getElem_cons_zero, List.getElem_cons_succ, List.setIfInBounds_toArray, List.set_cons_zero, List.set_cons_succ])
                  refine wpAnyH_take (i := 8) (v := ?_) rfl (by kernel_rfl) (by kernel_rfl) (by kernel_rfl) (fun _ _ _ h => h) (Or.inl ⟨by rfl, ?_⟩) (by assumption) ?_
                  rotate_left
                  · (intro wq hSw; (try dsimp only at hSw); go_simp; (try with_reducible rfl))
                  simp only [Act.put, List.getElem_toArray, List.getElem_cons_zero, List.getElem_cons_succ, List.setIfInBounds_toArray, List.set_cons_zero, List.set_cons_succ]
                  refine wpAnyH_done (by kernel_rfl) ?_ _
                  change wpList _ _ _ _ _ _
                  simp only [List.drop_succ_cons, List.drop_zero]
                  have hbq := hcq.keep HBOX.out (fun x => x)
                  have q7 := cell_of_block (i := 7) hbq rfl
                  have f7 := frozen_of_block (i := 7) hbq
                  have HBQ := Lib.hid hbq
                  have HCQ := Lib.hid hcq
                  have HROW := Lib.hid hrow3
                  have HN3 := Lib.hid hn3
                  clear hbq hcq hrow3 hn3 hrow2 hch2 hold2 hch3 hold3 hn2 n7d k4d
                  go_wp2_with fail
                  go_meet
                  have hset := Chg.setCell w3 ⟨sb, 7, none⟩ (.slice a3 n3 c3)
                  have hb3 := setCell_block (i := 7) (.slice a3 n3 c3) HBQ.out
                  have hszc : wc.heap.size ≤ wD.heap.size := by rw [HZ.out]; exact Nat.le_refl _
                  have hch := (HCD.out.trans' HCQ.out).mono (S' := (· = sb)) (fun _ _ x => x.elim)
                  have hcf := hch.trans hset (fun _ _ x => x) (fun _ _ x => x)
                  have hold := HR.out.old
                  have hdis := HR.out.dis
                  have hr3 := HROW.out.chg hset (fun k hk e => by have h1 := HN3.out k hk; have h2 := lt_of_block HR.out.box; have e' : k = sb := e; omega)
                  obtain ⟨Gn', R'⟩ := HR.out.next HX.out (y := { s with refuses := s.refuses ++ [m.epoch] }) hcf hb3 (HR.out.keep5 hcf) (HR.out.keep6 hcf) (by simpa using hr3) (fun k hk => .inl hk) (fun k hk => .inl hk) (fun k hk => .inr (Nat.le_trans hszc (HN3.out k hk))) hdis.1 (fun k h1 h2 => by have e1 := hold.1 k h1; have e2 := HN3.out k h2; omega) (fun k h1 h2 => by have e1 := hold.2.1 k h1; have e2 := HN3.out k h2; omega)
                  exact ⟨_, _, _, Gn', R'⟩
                exact AllReadyH.nil
              case rest =>
              obtain ⟨a8, n8, c8, Gn8, R8⟩ := hcut
              clear n1 n2 n3 n4 n5 n7 k0 k1 k3 k4 k5 k6 HR7
              have HR8 := Lib.hid R8
              have n1 : wc.cell? ⟨sb, 1, none⟩ = some (.int .i64 s.state) := cell_of_block (i := 1) R8.box rfl
              have n7 : wc.cell? ⟨sb, 7, none⟩ = some (.slice a8 n8 c8) := cell_of_block (i := 7) R8.box rfl
              have k1 : wc.cell? ⟨w.heap.size, 1, none⟩ = some (.int .i64 m.frm) := cell_of_block (i := 1) R8.msg rfl
              have k3 : wc.cell? ⟨w.heap.size, 3, none⟩ = some (.string m.page) := cell_of_block (i := 3) R8.msg rfl
              have k4 : wc.cell? ⟨w.heap.size, 4, none⟩ = some (.int .i64 m.epoch) := cell_of_block (i := 4) R8.msg rfl
              clear R8 HR HMC
              go_upto_region 17 with fail
              go_cut [168] from 162 to 167 (fun u wx => u = .bool (noB h m || s.state == 4) ∧ wc = wx)
              case first =>
                have hi := HIX.out
                cases hf : findS m.page h.seats 0 with
                | none =>
                  rw [hf] at hi
                  have hi2 : ix = -1 := hi.symm
                  have hnb : Hid (noB h m = true) := Lib.hid (by unfold noB; rw [hf]; rfl)
                  clear hf hi
                  subst hi2
                  go_wp2_with fail
                  go_meet
                  exact ⟨congrArg Value.bool (by rw [hnb.out]; rfl), rfl⟩
                | some j =>
                  rw [hf] at hi
                  have hi2 : ix = (j : Int) := hi.symm
                  have hnb : Hid (noB h m = false) := Lib.hid (by unfold noB; rw [hf]; rfl)
                  have i0 : (0 : Int) ≤ (j : Int) := Int.natCast_nonneg _
                  have i1 : decide ((j : Int) < 0) = false := decide_eq_false (by omega)
                  clear hf hi
                  subst hi2
                  go_wp2_with fail
                  go_meet
                  exact ⟨congrArg Value.bool (by rw [hnb.out]; rfl), rfl⟩
              case rest =>
              obtain ⟨rfl, rfl⟩ := hcut
              generalize hbar : (noB h m || s.state == 4) = bar at *
              have HBAR := Lib.hid hbar
              clear hbar
              go_upto_if 168 with fail
              go_cut [] from 169 to 173 (fun wx => ∃ u5 u6 u7 Gn', Rv w wx b o m h.out F2 F2 sb (barS h s m) u5 u6 u7 Gj Gn')
              case first =>
                cases bar with
                | false =>
                  go_wp2_with fail
                  go_meet
                  have hb : barS h s m = { s with refuses := s.refuses ++ [m.epoch] } := by unfold barS; rw [HBAR.out, if_neg (by decide)]
                  rw [hb]
                  exact ⟨_, _, _, _, HR8.out⟩
                | true =>
                  have hb : Hid (barS h s m = { blankSeat m.page with refuses := s.refuses ++ [m.epoch] }) := Lib.hid (by unfold barS; rw [HBAR.out, if_pos rfl])
                  refine wp_cond_split rfl (fun _ => ?_) (fun hx => by cases hx)
                  obtain ⟨hbt, hct⟩ := set8 HR8.out.box rfl (.string m.page) (.int .i64 0) (.int .i64 0) (.int .i64 0) (.string ⟨#[]⟩) (.slice none 0 0) (.slice none 0 0) (.slice a8 n8 c8)
                  have hth := there8 (o := 0) (n := 8) HR8.out.box (by show 0 + 8 ≤ 8; omega)
                  have HBT := Lib.hid hbt
                  have HCT := Lib.hid hct
                  have HTH := Lib.hid hth
                  clear hbt hct hth
                  go_wp2_with (refine wpList_store_mid rfl 67 (.tmp 5) (.tmp 173) rfl sb 0 #[.string m.page, .int .i64 0, .int .i64 0, .int .i64 0, .string ⟨#[]⟩, .slice none 0 0, .slice none 0 0, .slice a8 n8 c8] rfl rfl HTH.out (by kernel_rfl) (by simp [Value.oneCell']) ?_)
                  go_meet
                  rw [hb.out]
                  obtain ⟨Gn', R'⟩ := HR8.out.bare HX.out (y := { blankSeat m.page with refuses := s.refuses ++ [m.epoch] }) HCT.out HBT.out rfl rfl rfl
                  exact ⟨_, _, _, Gn', R'⟩
              case rest =>
              obtain ⟨u5', u6', u7', Gn9, R9⟩ := hcut
              clear n1 n7 k1 k3 k4 HR8
              have HR9 := Lib.hid R9
              have k1 : wc.cell? ⟨w.heap.size, 1, none⟩ = some (.int .i64 m.frm) := cell_of_block (i := 1) R9.msg rfl
              have k3 : wc.cell? ⟨w.heap.size, 3, none⟩ = some (.string m.page) := cell_of_block (i := 3) R9.msg rfl
              have k4 : wc.cell? ⟨w.heap.size, 4, none⟩ = some (.int .i64 m.epoch) := cell_of_block (i := 4) R9.msg rfl
              have hsay := rsay_any wc b o h.id h.out F2 6 m.frm m.epoch m.page (R9.mids.cells HX.out).1 R9.mids.out HFO.out
              have HSAY := Lib.hid hsay
              clear hsay R9
              go_wp2_with fail
              refine HSAY.out.mono ?_
              rintro e w9 ⟨rfl, hp⟩
              obtain ⟨G3, R3⟩ := HR9.out.sent HX.out HGJ.out hp
              have HR3 := Lib.hid R3
              clear hp R3
              go_wp2_with fail
              go_meet
              refine ⟨barS h s m, h.out ++ [answerM h m 6], G3, _, _, _, Gj, Gn9, ?_, HSRC.out, HR3.out⟩
              unfold recvR; rw [HASKS.out, HACT.out, HOPN.out, HOURS.out, HREF.out, HOLD.out, if_neg (by decide), if_neg (by decide), if_pos HCANC.out]
          | false =>
          go_upto_region 20 with fail
          go_cut [182] from 183 to 193 (fun u wx => u = .bool ((m.kind == 1 || m.kind == 2) && opn) ∧ wc = wx)
          case first =>
            as_aux_lemma =>
              cases e1 : (m.kind == 1)
              ·
                cases e2 : (m.kind == 2)
                ·
                  go_wp2_with fail
                  go_meet
                  exact ⟨congrArg Value.bool (by rw [e1, e2]; rfl), rfl⟩
                ·
                  go_wp2_with fail
                  go_meet
                  exact ⟨congrArg Value.bool (by rw [e1, e2]; rfl), rfl⟩
              ·
                go_wp2_with fail
                go_meet
                exact ⟨congrArg Value.bool (by rw [e1]; rfl), rfl⟩
          case rest =>
          obtain ⟨rfl, rfl⟩ := hcut
          generalize htake : ((m.kind == 1 || m.kind == 2) && opn) = take at *
          have HTAKE := Lib.hid htake
          clear htake
          cases take with
          | true =>
            skip
            have hk12 : m.kind = 1 ∨ m.kind = 2 := by
              have h1 := HTAKE.out
              rw [Bool.and_eq_true] at h1
              simpa using h1.1
            have HFC := Lib.hid (formed_counted HFM.out hk12)
            have HK12 := Lib.hid hk12
            clear hk12
            obtain ⟨hbt, hct⟩ := set8 HR.out.box rfl (.string m.page) (.int .i64 4) (.int .i64 m.epoch) (.int .i64 m.frm) (.string ⟨#[]⟩) (.slice none 0 0) (.slice none 0 0) (.slice a7 s.refuses.length c7)
            have hth := there8 (o := 0) (n := 8) HR.out.box (by show 0 + 8 ≤ 8; omega)
            have HBT := Lib.hid hbt
            have HCT := Lib.hid hct
            have HTH := Lib.hid hth
            clear hbt hct hth
            go_upto_region 22 with (refine wpList_store_mid rfl 67 (.tmp 5) (.tmp 202) rfl sb 0 #[.string m.page, .int .i64 4, .int .i64 m.epoch, .int .i64 m.frm, .string ⟨#[]⟩, .slice none 0 0, .slice none 0 0, .slice a7 s.refuses.length c7] rfl rfl HTH.out (by kernel_rfl) (by simp [Value.oneCell']) ?_)
            obtain ⟨Gn1, R1⟩ := HR.out.bare HX.out (y := ⟨m.page, 4, m.epoch, m.frm, ⟨#[]⟩, [], [], s.refuses⟩) HCT.out HBT.out rfl rfl rfl
            have HR1 := Lib.hid R1
            clear HBT HCT HTH R1 n1 n2 n3 n4 n5 n7 k0 k1 k3 k4 k5 k6 HR HR7 HMC
            generalize wc.setCells sb 0 [.string m.page, .int .i64 4, .int .i64 m.epoch, .int .i64 m.frm, .string ⟨#[]⟩, .slice none 0 0, .slice none 0 0, .slice a7 s.refuses.length c7] = w5 at *
            have k6 : w5.cell? ⟨w.heap.size, 6, none⟩ = some (.int .i64 m.count) := cell_of_block (i := 6) HR1.out.msg rfl
            have hms := fun W => made_strs W m.count (by have := HFC.out.1.1; omega) HFC.out.1.2
            have hA := Chg.alloc (fun _ => False) w5 (.cells (Array.replicate m.count.toNat (.string ⟨#[]⟩)) 9)
            have bA := hA.keep HR1.out.box (fun x => x)
            have q5 := cell_of_block (i := 5) bA rfl
            have f5 := frozen_of_block (i := 5) bA
            have hb6 := setCell_block (i := 5) (.slice (some ⟨w5.heap.size, 0, none⟩) m.count.toNat m.count.toNat) bA
            have hset6 := Chg.setCell (w5.alloc (.cells (Array.replicate m.count.toNat (.string ⟨#[]⟩)) 9)) ⟨sb, 5, none⟩ (.slice (some ⟨w5.heap.size, 0, none⟩) m.count.toNat m.count.toNat)
            have hc6 := (hA.mono (S' := (· = sb)) (fun _ _ x => x.elim)).trans hset6 (fun _ _ x => x) (fun _ _ x => x)
            have hsb := lt_of_block HR1.out.box
            have hr5 := (RowAt.made w5 9 (.string ⟨#[]⟩) m.count.toNat (by have := HFC.out.1; unfold maxLen; omega)).chg hset6 (fun k hk e => by have e1 := own_at (Nat.le_refl w5.heap.size) k hk; have e2 : k = sb := e; omega)
            have hs6 : ((w5.alloc (.cells (Array.replicate m.count.toNat (.string ⟨#[]⟩)) 9)).setCell ⟨sb, 5, none⟩ (.slice (some ⟨w5.heap.size, 0, none⟩) m.count.toNat m.count.toNat)).heap.size = w5.heap.size + 1 := by simp
            have hm6 := hc6.keep HR1.out.msg (by show ¬ w.heap.size = sb; have := HR1.out.lo; omega)
            have HB6 := Lib.hid hb6
            have HC6 := Lib.hid hc6
            have HR5 := Lib.hid hr5
            have HS6 := Lib.hid hs6
            have HM6 := Lib.hid hm6
            have HSB := Lib.hid hsb
            clear hA bA hb6 hset6 hc6 hsb hr5 hs6 hm6
            go_upto_region 23 with fail
            clear k6 hms q5 f5
            generalize (w5.alloc (.cells (Array.replicate m.count.toNat (.string ⟨#[]⟩)) 9)).setCell ⟨sb, 5, none⟩ (.slice (some ⟨w5.heap.size, 0, none⟩) m.count.toNat m.count.toNat) = w6 at *
            have k6 : w6.cell? ⟨w.heap.size, 6, none⟩ = some (.int .i64 m.count) := cell_of_block (i := 6) HM6.out rfl
            have hmb := fun W => made_bools W m.count (by have := HFC.out.1.1; omega) HFC.out.1.2
            have hA := Chg.alloc (fun _ => False) w6 (.cells (Array.replicate m.count.toNat (.bool false)) 4)
            have bA := hA.keep HB6.out (fun x => x)
            have q6 := cell_of_block (i := 6) bA rfl
            have f6 := frozen_of_block (i := 6) bA
            have hb7 := setCell_block (i := 6) (.slice (some ⟨w6.heap.size, 0, none⟩) m.count.toNat m.count.toNat) bA
            have hset7 := Chg.setCell (w6.alloc (.cells (Array.replicate m.count.toNat (.bool false)) 4)) ⟨sb, 6, none⟩ (.slice (some ⟨w6.heap.size, 0, none⟩) m.count.toNat m.count.toNat)
            have hc7 := HC6.out.trans ((hA.mono (S' := (· = sb)) (fun _ _ x => x.elim)).trans hset7 (fun _ _ x => x) (fun _ _ x => x)) (fun _ _ x => x) (fun _ _ x => x)
            have hsb := HSB.out
            have hs6 := HS6.out
            have hr6 := (RowAt.made w6 4 (.bool false) m.count.toNat (by have := HFC.out.1; unfold maxLen; omega)).chg hset7 (fun k hk e => by have e1 := own_at (Nat.le_refl w6.heap.size) k hk; have e2 : k = sb := e; omega)
            have hr5 := (HR5.out.alloc (.cells (Array.replicate m.count.toNat (.bool false)) 4)).chg hset7 (fun k hk e => by have e1 := own_at (Nat.le_refl w5.heap.size) k hk; have e2 : k = sb := e; omega)
            have hold := HR1.out.old
            have hR2 : ∃ v5 v6 Gn2, Rv w ((w6.alloc (.cells (Array.replicate m.count.toNat (.bool false)) 4)).setCell ⟨sb, 6, none⟩ (.slice (some ⟨w6.heap.size, 0, none⟩) m.count.toNat m.count.toNat)) b o m h.out F2 F2 sb (newS s m) v5 v6 (.slice a7 s.refuses.length c7) Gj Gn2 := by
              refine ⟨_, _, HR1.out.next HX.out (y := newS s m) hc7 hb7 ?_ ?_ (HR1.out.keep7 hc7) (fun k hk => .inr (own_at (Nat.le_refl _) k hk)) (fun k hk => .inr (own_at (by omega) k hk)) (fun k hk => .inl hk) (own_ne (by omega)) (fun k h1 h2 => by have e1 := own_at (Nat.le_refl _) k h1; have e2 := hold.2.2 k h2; omega) (fun k h1 h2 => by have e1 := own_at (B := w5.heap.size) (by omega) k h1; have e2 := hold.2.2 k h2; omega)⟩
              · show RowAt _ _ _ _ (List.replicate m.count.toNat (⟨#[]⟩ : ByteArray)).length ((List.replicate m.count.toNat (⟨#[]⟩ : ByteArray)).map Value.string)
                rw [List.length_replicate, List.map_replicate]
                exact hr5
              · show RowAt _ _ _ _ (List.replicate m.count.toNat false).length ((List.replicate m.count.toNat false).map Value.bool)
                rw [List.length_replicate, List.map_replicate]
                exact hr6
            have HR2 := Lib.hid hR2
            clear hA bA hb7 hset7 hc7 hsb hs6 hr6 hr5 hold hR2
            go_upto_region 24 with fail
            clear k6 hmb q6 f6 HB6 HC6 HR5 HS6 HM6 HSB HR1
            generalize (w6.alloc (.cells (Array.replicate m.count.toNat (.bool false)) 4)).setCell ⟨sb, 6, none⟩ (.slice (some ⟨w6.heap.size, 0, none⟩) m.count.toNat m.count.toNat) = wY at *
            have HYL : Hid ((newS s m).parts.length = m.count.toNat) := Lib.hid (List.length_replicate ..)
            have HYO : Hid (SeatOk (newS s m)) := Lib.hid ⟨by show (List.replicate _ _).length = (List.replicate _ _).length; rw [List.length_replicate, List.length_replicate], by rw [HYL.out]; have := HFC.out.1.2; omega, fun p hp => by
              have := List.eq_of_mem_replicate hp
              subst this
              exact Nat.zero_le _⟩
            have HYR : Hid ((newS s m).refuses = s.refuses) := Lib.hid rfl
            generalize hy : newS s m = y at *
            have HY := Lib.hid hy
            clear hy
            obtain ⟨v5, v6, Gn2, R2⟩ := HR2.out
            rw [← HYR.out] at R2
            obtain ⟨q5, q6, -, -⟩ := seat_rows R2.own
            obtain ⟨a5, c5, rfl, -, -⟩ := q5.slice
            obtain ⟨a6, c6, rfl, -, -⟩ := q6.slice
            have HRY := Lib.hid R2
            clear R2 q5 q6 HR2
            rcases HK12.out with hk | hk
            ·
                have hso := rstore_offer wY b o y m hk a5 a6 a7 y.parts.length y.have_.length y.refuses.length c5 c6 c7
                unfold seatV at hso
                have HSTO := Lib.hid hso
                have HKK := Lib.hid hk
                clear hso hk
                have n0 : wY.cell? ⟨sb, 0, none⟩ = some (.string y.page) := cell_of_block (i := 0) HRY.out.box rfl
                have n1 : wY.cell? ⟨sb, 1, none⟩ = some (.int .i64 y.state) := cell_of_block (i := 1) HRY.out.box rfl
                have n2 : wY.cell? ⟨sb, 2, none⟩ = some (.int .i64 y.epoch) := cell_of_block (i := 2) HRY.out.box rfl
                have n3 : wY.cell? ⟨sb, 3, none⟩ = some (.int .i64 y.peer) := cell_of_block (i := 3) HRY.out.box rfl
                have n4 : wY.cell? ⟨sb, 4, none⟩ = some (.string y.letter) := cell_of_block (i := 4) HRY.out.box rfl
                have n5 : wY.cell? ⟨sb, 5, none⟩ = some (.slice a5 y.parts.length c5) := cell_of_block (i := 5) HRY.out.box rfl
                have n6 : wY.cell? ⟨sb, 6, none⟩ = some (.slice a6 y.have_.length c6) := cell_of_block (i := 6) HRY.out.box rfl
                have n7 : wY.cell? ⟨sb, 7, none⟩ = some (.slice a7 y.refuses.length c7) := cell_of_block (i := 7) HRY.out.box rfl
                have k0 : wY.cell? ⟨w.heap.size, 0, none⟩ = some (.int .i64 m.kind) := cell_of_block (i := 0) HRY.out.msg rfl
                have k1 : wY.cell? ⟨w.heap.size, 1, none⟩ = some (.int .i64 m.frm) := cell_of_block (i := 1) HRY.out.msg rfl
                have k2 : wY.cell? ⟨w.heap.size, 2, none⟩ = some (.int .i64 m.dst) := cell_of_block (i := 2) HRY.out.msg rfl
                have k3 : wY.cell? ⟨w.heap.size, 3, none⟩ = some (.string m.page) := cell_of_block (i := 3) HRY.out.msg rfl
                have k4 : wY.cell? ⟨w.heap.size, 4, none⟩ = some (.int .i64 m.epoch) := cell_of_block (i := 4) HRY.out.msg rfl
                have k5 : wY.cell? ⟨w.heap.size, 5, none⟩ = some (.int .i64 m.index) := cell_of_block (i := 5) HRY.out.msg rfl
                have k6 : wY.cell? ⟨w.heap.size, 6, none⟩ = some (.int .i64 m.count) := cell_of_block (i := 6) HRY.out.msg rfl
                have k7 : wY.cell? ⟨w.heap.size, 7, none⟩ = some (.string m.data) := cell_of_block (i := 7) HRY.out.msg rfl
                go_wp2_with fail
                refine HSTO.out.mono ?_
                rintro e w8 ⟨rfl, hc8⟩
                clear n0 n1 n2 n3 n4 n5 n6 n7 k0 k1 k2 k3 k4 k5 k6 k7 HSTO
                have hb8 := hc8.keep HRY.out.box (fun x => x)
                have HC8 := Lib.hid hc8
                obtain ⟨hbt, hct⟩ := set8 hb8 rfl (.string y.page) (.int .i64 y.state) (.int .i64 y.epoch) (.int .i64 y.peer) (.string y.letter) (.slice a5 y.parts.length c5) (.slice a6 y.have_.length c6) (.slice a7 y.refuses.length c7)
                have hth := there8 (o := 0) (n := 8) hb8 (by show 0 + 8 ≤ 8; omega)
                have HBT := Lib.hid hbt
                have HCT := Lib.hid hct
                have HTH := Lib.hid hth
                clear hbt hct hth
                clear hb8 hc8
                go_wp2_with (refine wpList_store_mid rfl 67 (.tmp 5) (.tmp 214) rfl sb 0 #[.string y.page, .int .i64 y.state, .int .i64 y.epoch, .int .i64 y.peer, .string y.letter, .slice a5 y.parts.length c5, .slice a6 y.have_.length c6, .slice a7 y.refuses.length c7] rfl rfl HTH.out (by kernel_rfl) (by simp [Value.oneCell']) ?_)
                go_meet
                have hcf := (HC8.out.mono (S' := (· = sb)) (fun _ _ x => x.elim)).trans HCT.out (fun _ _ x => x) (fun _ _ x => x)
                have hdis := HRY.out.dis
                obtain ⟨Gn', R'⟩ := HRY.out.next HX.out (y := y) hcf HBT.out (HRY.out.keep5 hcf) (HRY.out.keep6 hcf) (HRY.out.keep7 hcf) (fun k hk => .inl hk) (fun k hk => .inl hk) (fun k hk => .inl hk) hdis.1 hdis.2.1 hdis.2.2
                refine ⟨y, h.out, F2, _, _, _, Gj, Gn', ?_, HSRC.out, R'⟩
                unfold recvR; rw [HASKS.out, HACT.out, HOPN.out, HOURS.out, HREF.out, HOLD.out, if_neg (by decide), if_neg (by decide), if_neg (show ¬ _ = true by rw [HCANC.out]; decide), if_pos HTAKE.out, HY.out]
                unfold storeR
                rw [if_pos HKK.out]
            ·
                have HIN : Hid (0 ≤ m.index ∧ m.index < (y.parts.length : Int)) := Lib.hid ⟨HFC.out.2.1.1, by rw [HYL.out]; have := HFC.out.2.1.2 hk; have := HFC.out.1.1; omega⟩
                have HDS : Hid (m.data.size ≤ 1000) := Lib.hid HFC.out.2.2
                have hrows := seat_rows HRY.out.own
                have hso := rstore_part wY b o h.id h.out F2 y m (by omega) HIN.out HYO.out HDS.out a5 a6 a7 c5 c6 y.refuses.length c7 (HRY.out.mids.cells HX.out).1 HRY.out.mids.out HFO.out hrows.1 hrows.2.1
                have HSTO := Lib.hid hso
                have HR7Y := Lib.hid hrows.2.2.1
                have HKK := Lib.hid hk
                clear hso hk hrows
                have n0 : wY.cell? ⟨sb, 0, none⟩ = some (.string y.page) := cell_of_block (i := 0) HRY.out.box rfl
                have n1 : wY.cell? ⟨sb, 1, none⟩ = some (.int .i64 y.state) := cell_of_block (i := 1) HRY.out.box rfl
                have n2 : wY.cell? ⟨sb, 2, none⟩ = some (.int .i64 y.epoch) := cell_of_block (i := 2) HRY.out.box rfl
                have n3 : wY.cell? ⟨sb, 3, none⟩ = some (.int .i64 y.peer) := cell_of_block (i := 3) HRY.out.box rfl
                have n4 : wY.cell? ⟨sb, 4, none⟩ = some (.string y.letter) := cell_of_block (i := 4) HRY.out.box rfl
                have n5 : wY.cell? ⟨sb, 5, none⟩ = some (.slice a5 y.parts.length c5) := cell_of_block (i := 5) HRY.out.box rfl
                have n6 : wY.cell? ⟨sb, 6, none⟩ = some (.slice a6 y.have_.length c6) := cell_of_block (i := 6) HRY.out.box rfl
                have n7 : wY.cell? ⟨sb, 7, none⟩ = some (.slice a7 y.refuses.length c7) := cell_of_block (i := 7) HRY.out.box rfl
                have k0 : wY.cell? ⟨w.heap.size, 0, none⟩ = some (.int .i64 m.kind) := cell_of_block (i := 0) HRY.out.msg rfl
                have k1 : wY.cell? ⟨w.heap.size, 1, none⟩ = some (.int .i64 m.frm) := cell_of_block (i := 1) HRY.out.msg rfl
                have k2 : wY.cell? ⟨w.heap.size, 2, none⟩ = some (.int .i64 m.dst) := cell_of_block (i := 2) HRY.out.msg rfl
                have k3 : wY.cell? ⟨w.heap.size, 3, none⟩ = some (.string m.page) := cell_of_block (i := 3) HRY.out.msg rfl
                have k4 : wY.cell? ⟨w.heap.size, 4, none⟩ = some (.int .i64 m.epoch) := cell_of_block (i := 4) HRY.out.msg rfl
                have k5 : wY.cell? ⟨w.heap.size, 5, none⟩ = some (.int .i64 m.index) := cell_of_block (i := 5) HRY.out.msg rfl
                have k6 : wY.cell? ⟨w.heap.size, 6, none⟩ = some (.int .i64 m.count) := cell_of_block (i := 6) HRY.out.msg rfl
                have k7 : wY.cell? ⟨w.heap.size, 7, none⟩ = some (.string m.data) := cell_of_block (i := 7) HRY.out.msg rfl
                go_wp2_with fail
                refine HSTO.out.mono ?_
                rintro e w8 hres
                clear n0 n1 n2 n3 n4 n5 n6 n7 k0 k1 k2 k3 k4 k5 k6 k7 HSTO
                have hlen := storeS_len y m
                unfold StoreRes at hres
                have HLR : Hid ((storeS y m).refuses = y.refuses) := Lib.hid hlen.2.2.2.2.2.2.2
                generalize hz : storeS y m = z at *
                have HZ := Lib.hid hz
                clear hz hlen
                rcases hres with ⟨hcon, v5, v6, rfl, q5, q6, o5, o6, h56, hc8⟩ | ⟨hcon, rfl, hp⟩
                · obtain ⟨av5, cv5, rfl, -, -⟩ := q5.slice
                  obtain ⟨av6, cv6, rfl, -, -⟩ := q6.slice
                  have HQ5 := Lib.hid q5
                  have HQ6 := Lib.hid q6
                  have HO5 := Lib.hid o5
                  have HO6 := Lib.hid o6
                  have H56 := Lib.hid h56
                  have HC8 := Lib.hid hc8
                  have HCON := Lib.hid hcon
                  unfold seatV
                  have hb8 := hc8.keep HRY.out.box (fun x => x)
                  obtain ⟨hbt, hct⟩ := set8 hb8 rfl (.string z.page) (.int .i64 z.state) (.int .i64 z.epoch) (.int .i64 z.peer) (.string z.letter) (.slice av5 z.parts.length cv5) (.slice av6 z.have_.length cv6) (.slice a7 y.refuses.length c7)
                  have hth := there8 (o := 0) (n := 8) hb8 (by show 0 + 8 ≤ 8; omega)
                  have HBT := Lib.hid hbt
                  have HCT := Lib.hid hct
                  have HTH := Lib.hid hth
                  clear hbt hct hth
                  clear hb8 hc8 hcon q5 q6 o5 o6 h56
                  go_wp2_with (refine wpList_store_mid rfl 67 (.tmp 5) (.tmp 214) rfl sb 0 #[.string z.page, .int .i64 z.state, .int .i64 z.epoch, .int .i64 z.peer, .string z.letter, .slice av5 z.parts.length cv5, .slice av6 z.have_.length cv6, .slice a7 y.refuses.length c7] rfl rfl HTH.out (by kernel_rfl) (by simp [Value.oneCell']) ?_)
                  go_meet
                  have hcf := (HC8.out.mono (S' := (· = sb)) (fun _ _ x => x.elim)).trans HCT.out (fun _ _ x => x) (fun _ _ x => x)
                  have hsb := lt_of_block HRY.out.box
                  have hold := HRY.out.old
                  obtain ⟨Gn', R'⟩ := HRY.out.next HX.out (y := z) hcf HBT.out (HQ5.out.chg HCT.out (fun k hk e => by have h1 := HO5.out k hk; have e' : k = sb := e; omega)) (HQ6.out.chg HCT.out (fun k hk e => by have h1 := HO6.out k hk; have e' : k = sb := e; omega)) (by rw [HLR.out]; exact HRY.out.keep7 hcf) (fun k hk => .inr (HO5.out k hk)) (fun k hk => .inr (HO6.out k hk)) (fun k hk => .inl hk) H56.out (fun k h1 h2 => by have e1 := HO5.out k h1; have e2 := hold.2.2 k h2; omega) (fun k h1 h2 => by have e1 := HO6.out k h1; have e2 := hold.2.2 k h2; omega)
                  refine ⟨z, h.out, F2, _, _, _, Gj, Gn', ?_, HSRC.out, R'⟩
                  unfold recvR; rw [HASKS.out, HACT.out, HOPN.out, HOURS.out, HREF.out, HOLD.out, if_neg (by decide), if_neg (by decide), if_neg (show ¬ _ = true by rw [HCANC.out]; decide), if_pos HTAKE.out, HY.out]
                  unfold storeR
                  rw [if_neg (show ¬ m.kind = 1 by rw [HKK.out]; decide), HZ.out, if_pos HCON.out]
                · obtain ⟨G3, R3⟩ := HRY.out.sent HX.out HGJ.out hp
                  have HR3 := Lib.hid R3
                  have HCON := Lib.hid hcon
                  unfold seatV
                  obtain ⟨hbt, hct⟩ := set8 R3.box rfl (.string (doneS z).page) (.int .i64 (doneS z).state) (.int .i64 (doneS z).epoch) (.int .i64 (doneS z).peer) (.string (doneS z).letter) (.slice none 0 0) (.slice none 0 0) (.slice a7 y.refuses.length c7)
                  have hth := there8 (o := 0) (n := 8) R3.box (by show 0 + 8 ≤ 8; omega)
                  have HBT := Lib.hid hbt
                  have HCT := Lib.hid hct
                  have HTH := Lib.hid hth
                  clear hbt hct hth
                  clear R3 hcon hp
                  go_wp2_with (refine wpList_store_mid rfl 67 (.tmp 5) (.tmp 214) rfl sb 0 #[.string (doneS z).page, .int .i64 (doneS z).state, .int .i64 (doneS z).epoch, .int .i64 (doneS z).peer, .string (doneS z).letter, .slice none 0 0, .slice none 0 0, .slice a7 y.refuses.length c7] rfl rfl HTH.out (by kernel_rfl) (by simp [Value.oneCell']) ?_)
                  go_meet
                  obtain ⟨Gn', R'⟩ := HR3.out.bare HX.out (y := doneS z) HCT.out HBT.out rfl rfl HLR.out
                  refine ⟨doneS z, h.out ++ [answerM h m 4], G3, _, _, _, Gj, Gn', ?_, HSRC.out, R'⟩
                  unfold recvR; rw [HASKS.out, HACT.out, HOPN.out, HOURS.out, HREF.out, HOLD.out, if_neg (by decide), if_neg (by decide), if_neg (show ¬ _ = true by rw [HCANC.out]; decide), if_pos HTAKE.out, HY.out]
                  unfold storeR
                  rw [if_neg (show ¬ m.kind = 1 by rw [HKK.out]; decide), HZ.out, if_neg (by rw [HCON.out]; decide)]
          | false =>
          go_upto_region 25 with fail
          go_cut [215] from 216 to 234 (fun u wx => u = .bool (m.kind == 2 && s.state == 4 && ours && m.count == (s.parts.length : Int)) ∧ wc = wx)
          case first =>
            as_aux_lemma =>
              cases e1 : (m.kind == 2)
              ·
                go_wp2_with fail
                go_meet
                exact ⟨congrArg Value.bool (by rw [e1]; rfl), rfl⟩
              ·
                cases e2 : (s.state == 4)
                ·
                  go_wp2_with fail
                  go_meet
                  exact ⟨congrArg Value.bool (by rw [e1, e2]; rfl), rfl⟩
                ·
                  cases ours
                  ·
                    go_wp2_with fail
                    go_meet
                    exact ⟨congrArg Value.bool (by rw [e1, e2]; rfl), rfl⟩
                  ·
                    go_wp2_with fail
                    go_meet
                    exact ⟨congrArg Value.bool (by rw [e1, e2]; rfl), rfl⟩
          case rest =>
          obtain ⟨rfl, rfl⟩ := hcut
          generalize hmore : (m.kind == 2 && s.state == 4 && ours && m.count == (s.parts.length : Int)) = more at *
          have HMORE := Lib.hid hmore
          clear hmore
          cases more with
          | true =>
            as_aux_lemma =>
              have hmo := HMORE.out
              simp only [Bool.and_eq_true, beq_iff_eq] at hmo
              have hk : m.kind = 2 := hmo.1.1.1
              have HFC := Lib.hid (formed_counted HFM.out (.inr hk))
              have HIN : Hid (0 ≤ m.index ∧ m.index < (s.parts.length : Int)) := Lib.hid ⟨HFC.out.2.1.1, by rw [← hmo.2]; exact HFC.out.2.1.2 hk⟩
              have HDS : Hid (m.data.size ≤ 1000) := Lib.hid HFC.out.2.2
              have HYO := Lib.hid HSO.out.1
              have HRY := HR
              clear hmo n1 n2 n3 n4 n5 n7 k0 k1 k3 k4 k5 k6
              go_upto_region 26 with fail
              have hrows := seat_rows HRY.out.own
              have hso := rstore_part wc b o h.id h.out F2 s m (by omega) HIN.out HYO.out HDS.out a5 a6 a7 c5 c6 s.refuses.length c7 (HRY.out.mids.cells HX.out).1 HRY.out.mids.out HFO.out hrows.1 hrows.2.1
              have HSTO := Lib.hid hso
              have HR7Y := Lib.hid hrows.2.2.1
              have HKK := Lib.hid hk
              clear hso hk hrows
              have n0 : wc.cell? ⟨sb, 0, none⟩ = some (.string s.page) := cell_of_block (i := 0) HRY.out.box rfl
              have n1 : wc.cell? ⟨sb, 1, none⟩ = some (.int .i64 s.state) := cell_of_block (i := 1) HRY.out.box rfl
              have n2 : wc.cell? ⟨sb, 2, none⟩ = some (.int .i64 s.epoch) := cell_of_block (i := 2) HRY.out.box rfl
              have n3 : wc.cell? ⟨sb, 3, none⟩ = some (.int .i64 s.peer) := cell_of_block (i := 3) HRY.out.box rfl
              have n4 : wc.cell? ⟨sb, 4, none⟩ = some (.string s.letter) := cell_of_block (i := 4) HRY.out.box rfl
              have n5 : wc.cell? ⟨sb, 5, none⟩ = some (.slice a5 s.parts.length c5) := cell_of_block (i := 5) HRY.out.box rfl
              have n6 : wc.cell? ⟨sb, 6, none⟩ = some (.slice a6 s.have_.length c6) := cell_of_block (i := 6) HRY.out.box rfl
              have n7 : wc.cell? ⟨sb, 7, none⟩ = some (.slice a7 s.refuses.length c7) := cell_of_block (i := 7) HRY.out.box rfl
              have k0 : wc.cell? ⟨w.heap.size, 0, none⟩ = some (.int .i64 m.kind) := cell_of_block (i := 0) HRY.out.msg rfl
              have k1 : wc.cell? ⟨w.heap.size, 1, none⟩ = some (.int .i64 m.frm) := cell_of_block (i := 1) HRY.out.msg rfl
              have k2 : wc.cell? ⟨w.heap.size, 2, none⟩ = some (.int .i64 m.dst) := cell_of_block (i := 2) HRY.out.msg rfl
              have k3 : wc.cell? ⟨w.heap.size, 3, none⟩ = some (.string m.page) := cell_of_block (i := 3) HRY.out.msg rfl
              have k4 : wc.cell? ⟨w.heap.size, 4, none⟩ = some (.int .i64 m.epoch) := cell_of_block (i := 4) HRY.out.msg rfl
              have k5 : wc.cell? ⟨w.heap.size, 5, none⟩ = some (.int .i64 m.index) := cell_of_block (i := 5) HRY.out.msg rfl
              have k6 : wc.cell? ⟨w.heap.size, 6, none⟩ = some (.int .i64 m.count) := cell_of_block (i := 6) HRY.out.msg rfl
              have k7 : wc.cell? ⟨w.heap.size, 7, none⟩ = some (.string m.data) := cell_of_block (i := 7) HRY.out.msg rfl
              go_wp2_with fail
              refine HSTO.out.mono ?_
              rintro e w8 hres
              clear n0 n1 n2 n3 n4 n5 n6 n7 k0 k1 k2 k3 k4 k5 k6 k7 HSTO
              have hlen := storeS_len s m
              unfold StoreRes at hres
              have HLR : Hid ((storeS s m).refuses = s.refuses) := Lib.hid hlen.2.2.2.2.2.2.2
              generalize hz : storeS s m = z at *
              have HZ := Lib.hid hz
              clear hz hlen
              rcases hres with ⟨hcon, v5, v6, rfl, q5, q6, o5, o6, h56, hc8⟩ | ⟨hcon, rfl, hp⟩
              · obtain ⟨av5, cv5, rfl, -, -⟩ := q5.slice
                obtain ⟨av6, cv6, rfl, -, -⟩ := q6.slice
                have HQ5 := Lib.hid q5
                have HQ6 := Lib.hid q6
                have HO5 := Lib.hid o5
                have HO6 := Lib.hid o6
                have H56 := Lib.hid h56
                have HC8 := Lib.hid hc8
                have HCON := Lib.hid hcon
                unfold seatV
                have hb8 := hc8.keep HRY.out.box (fun x => x)
                obtain ⟨hbt, hct⟩ := set8 hb8 rfl (.string z.page) (.int .i64 z.state) (.int .i64 z.epoch) (.int .i64 z.peer) (.string z.letter) (.slice av5 z.parts.length cv5) (.slice av6 z.have_.length cv6) (.slice a7 s.refuses.length c7)
                have hth := there8 (o := 0) (n := 8) hb8 (by show 0 + 8 ≤ 8; omega)
                have HBT := Lib.hid hbt
                have HCT := Lib.hid hct
                have HTH := Lib.hid hth
                clear hbt hct hth
                clear hb8 hc8 hcon q5 q6 o5 o6 h56
                go_wp2_with (refine wpList_store_mid rfl 67 (.tmp 5) (.tmp 238) rfl sb 0 #[.string z.page, .int .i64 z.state, .int .i64 z.epoch, .int .i64 z.peer, .string z.letter, .slice av5 z.parts.length cv5, .slice av6 z.have_.length cv6, .slice a7 s.refuses.length c7] rfl rfl HTH.out (by kernel_rfl) (by simp [Value.oneCell']) ?_)
                go_meet
                have hcf := (HC8.out.mono (S' := (· = sb)) (fun _ _ x => x.elim)).trans HCT.out (fun _ _ x => x) (fun _ _ x => x)
                have hsb := lt_of_block HRY.out.box
                have hold := HRY.out.old
                obtain ⟨Gn', R'⟩ := HRY.out.next HX.out (y := z) hcf HBT.out (HQ5.out.chg HCT.out (fun k hk e => by have h1 := HO5.out k hk; have e' : k = sb := e; omega)) (HQ6.out.chg HCT.out (fun k hk e => by have h1 := HO6.out k hk; have e' : k = sb := e; omega)) (by rw [HLR.out]; exact HRY.out.keep7 hcf) (fun k hk => .inr (HO5.out k hk)) (fun k hk => .inr (HO6.out k hk)) (fun k hk => .inl hk) H56.out (fun k h1 h2 => by have e1 := HO5.out k h1; have e2 := hold.2.2 k h2; omega) (fun k h1 h2 => by have e1 := HO6.out k h1; have e2 := hold.2.2 k h2; omega)
                refine ⟨z, h.out, F2, _, _, _, Gj, Gn', ?_, HSRC.out, R'⟩
                unfold recvR; rw [HASKS.out, HACT.out, HOPN.out, HOURS.out, HREF.out, HOLD.out, if_neg (by decide), if_neg (by decide), if_neg (show ¬ _ = true by rw [HCANC.out]; decide), if_neg (show ¬ _ = true by rw [HTAKE.out]; decide), if_pos HMORE.out]
                unfold storeR
                rw [if_neg (show ¬ m.kind = 1 by rw [HKK.out]; decide), HZ.out, if_pos HCON.out]
              · obtain ⟨G3, R3⟩ := HRY.out.sent HX.out HGJ.out hp
                have HR3 := Lib.hid R3
                have HCON := Lib.hid hcon
                unfold seatV
                obtain ⟨hbt, hct⟩ := set8 R3.box rfl (.string (doneS z).page) (.int .i64 (doneS z).state) (.int .i64 (doneS z).epoch) (.int .i64 (doneS z).peer) (.string (doneS z).letter) (.slice none 0 0) (.slice none 0 0) (.slice a7 s.refuses.length c7)
                have hth := there8 (o := 0) (n := 8) R3.box (by show 0 + 8 ≤ 8; omega)
                have HBT := Lib.hid hbt
                have HCT := Lib.hid hct
                have HTH := Lib.hid hth
                clear hbt hct hth
                clear R3 hcon hp
                go_wp2_with (refine wpList_store_mid rfl 67 (.tmp 5) (.tmp 238) rfl sb 0 #[.string (doneS z).page, .int .i64 (doneS z).state, .int .i64 (doneS z).epoch, .int .i64 (doneS z).peer, .string (doneS z).letter, .slice none 0 0, .slice none 0 0, .slice a7 s.refuses.length c7] rfl rfl HTH.out (by kernel_rfl) (by simp [Value.oneCell']) ?_)
                go_meet
                obtain ⟨Gn', R'⟩ := HR3.out.bare HX.out (y := doneS z) HCT.out HBT.out rfl rfl HLR.out
                refine ⟨doneS z, h.out ++ [answerM h m 4], G3, _, _, _, Gj, Gn', ?_, HSRC.out, R'⟩
                unfold recvR; rw [HASKS.out, HACT.out, HOPN.out, HOURS.out, HREF.out, HOLD.out, if_neg (by decide), if_neg (by decide), if_neg (show ¬ _ = true by rw [HCANC.out]; decide), if_neg (show ¬ _ = true by rw [HTAKE.out]; decide), if_pos HMORE.out]
                unfold storeR
                rw [if_neg (show ¬ m.kind = 1 by rw [HKK.out]; decide), HZ.out, if_neg (by rw [HCON.out]; decide)]
          | false =>
          go_upto_region 27 with fail
          go_cut [239] from 240 to 258 (fun u wx => u = .bool (m.kind == 3 && s.state == 2 && ours && decide (m.index < ((partsL s.letter).length : Int))) ∧ Chg (fun _ => False) wc wx)
          case first =>
            as_aux_lemma =>
              have HCNT := Lib.hid (fun W => rcount_any s.letter W HSO.out.2)
              have l1 : ∀ x : Later wc, x.at_.cell? ⟨sb, 1, none⟩ = some (.int .i64 s.state) := Later.cell n1
              have l4 : ∀ x : Later wc, x.at_.cell? ⟨sb, 4, none⟩ = some (.string s.letter) := Later.cell n4
              have m0 : ∀ x : Later wc, x.at_.cell? ⟨w.heap.size, 0, none⟩ = some (.int .i64 m.kind) := Later.cell k0
              have m5 : ∀ x : Later wc, x.at_.cell? ⟨w.heap.size, 5, none⟩ = some (.int .i64 m.index) := Later.cell k5
              clear n1 n2 n3 n4 n5 n7 k0 k1 k3 k4 k5 k6
              cases e1 : (m.kind == 3)
              ·
                refine wp_region_later (by kernel_rfl) (by kernel_rfl) ?_
                repeat (go_big_quiet_step ((go_at_call 51; exact Later.call ((HCNT.out _).mono (by rintro e w' ⟨rfl, rfl⟩; exact ⟨rfl, Chg.refl _ _⟩)))))
                refine wpQuiet_nil ?_
                rintro _ ⟨x, rfl⟩
                go_wp2_with fail
                go_meet
                exact ⟨congrArg Value.bool (by rw [e1]; rfl), x.chg⟩
              · cases e2 : (s.state == 2)
                ·
                  refine wp_region_later (by kernel_rfl) (by kernel_rfl) ?_
                  repeat (go_big_quiet_step ((go_at_call 51; exact Later.call ((HCNT.out _).mono (by rintro e w' ⟨rfl, rfl⟩; exact ⟨rfl, Chg.refl _ _⟩)))))
                  refine wpQuiet_nil ?_
                  rintro _ ⟨x, rfl⟩
                  go_wp2_with fail
                  go_meet
                  exact ⟨congrArg Value.bool (by rw [e1, e2]; rfl), x.chg⟩
                · cases ours
                  ·
                    refine wp_region_later (by kernel_rfl) (by kernel_rfl) ?_
                    repeat (go_big_quiet_step ((go_at_call 51; exact Later.call ((HCNT.out _).mono (by rintro e w' ⟨rfl, rfl⟩; exact ⟨rfl, Chg.refl _ _⟩)))))
                    refine wpQuiet_nil ?_
                    rintro _ ⟨x, rfl⟩
                    go_wp2_with fail
                    go_meet
                    exact ⟨congrArg Value.bool (by rw [e1, e2]; rfl), x.chg⟩
                  ·
                    refine wp_region_later (by kernel_rfl) (by kernel_rfl) ?_
                    repeat (go_big_quiet_step ((go_at_call 51; exact Later.call ((HCNT.out _).mono (by rintro e w' ⟨rfl, rfl⟩; exact ⟨rfl, Chg.refl _ _⟩)))))
                    refine wpQuiet_nil ?_
                    rintro _ ⟨x, rfl⟩
                    go_wp2_with fail
                    go_meet
                    exact ⟨congrArg Value.bool (by rw [e1, e2]; rfl), x.chg⟩
          case rest =>
          obtain ⟨rfl, hchx⟩ := hcut
          have HR' := Lib.hid (HR.out.still hchx)
          clear hchx n1 n2 n3 n4 n5 n7 k0 k1 k3 k4 k5 k6 HR HR7 HMC
          have HR := HR'
          clear HR'
          generalize hneed : (m.kind == 3 && s.state == 2 && ours && decide (m.index < ((partsL s.letter).length : Int))) = need at *
          have HNEED := Lib.hid hneed
          clear hneed
          cases need with
          | true =>
            as_aux_lemma =>
              have hn := HNEED.out
              simp only [Bool.and_eq_true, beq_iff_eq, decide_eq_true_eq] at hn
              have hix := formed_index HFM.out hn.1.1.1
              have hin : m.index.toNat < (partsL s.letter).length := by have := hn.2; omega
              have hidx : m.index = ((m.index.toNat : Nat) : Int) := by omega
              have hpt := rpart_any wc b o h.id h.out F2 s m.index.toNat a5 a6 a7 s.parts.length s.have_.length s.refuses.length c5 c6 c7 (HR.out.mids.cells HX.out).1 HR.out.mids.out HFO.out HSO.out.2 hin
              rw [← hidx] at hpt
              have HPT := Lib.hid hpt
              clear hn hix hin hidx hpt
              have n0 : wc.cell? ⟨sb, 0, none⟩ = some (.string s.page) := cell_of_block (i := 0) HR.out.box rfl
              have n1 : wc.cell? ⟨sb, 1, none⟩ = some (.int .i64 s.state) := cell_of_block (i := 1) HR.out.box rfl
              have n2 : wc.cell? ⟨sb, 2, none⟩ = some (.int .i64 s.epoch) := cell_of_block (i := 2) HR.out.box rfl
              have n3 : wc.cell? ⟨sb, 3, none⟩ = some (.int .i64 s.peer) := cell_of_block (i := 3) HR.out.box rfl
              have n4 : wc.cell? ⟨sb, 4, none⟩ = some (.string s.letter) := cell_of_block (i := 4) HR.out.box rfl
              have n5 : wc.cell? ⟨sb, 5, none⟩ = some (.slice a5 s.parts.length c5) := cell_of_block (i := 5) HR.out.box rfl
              have n6 : wc.cell? ⟨sb, 6, none⟩ = some (.slice a6 s.have_.length c6) := cell_of_block (i := 6) HR.out.box rfl
              have n7 : wc.cell? ⟨sb, 7, none⟩ = some (.slice a7 s.refuses.length c7) := cell_of_block (i := 7) HR.out.box rfl
              have k0 : wc.cell? ⟨w.heap.size, 0, none⟩ = some (.int .i64 m.kind) := cell_of_block (i := 0) HR.out.msg rfl
              have k1 : wc.cell? ⟨w.heap.size, 1, none⟩ = some (.int .i64 m.frm) := cell_of_block (i := 1) HR.out.msg rfl
              have k2 : wc.cell? ⟨w.heap.size, 2, none⟩ = some (.int .i64 m.dst) := cell_of_block (i := 2) HR.out.msg rfl
              have k3 : wc.cell? ⟨w.heap.size, 3, none⟩ = some (.string m.page) := cell_of_block (i := 3) HR.out.msg rfl
              have k4 : wc.cell? ⟨w.heap.size, 4, none⟩ = some (.int .i64 m.epoch) := cell_of_block (i := 4) HR.out.msg rfl
              have k5 : wc.cell? ⟨w.heap.size, 5, none⟩ = some (.int .i64 m.index) := cell_of_block (i := 5) HR.out.msg rfl
              have k6 : wc.cell? ⟨w.heap.size, 6, none⟩ = some (.int .i64 m.count) := cell_of_block (i := 6) HR.out.msg rfl
              have k7 : wc.cell? ⟨w.heap.size, 7, none⟩ = some (.string m.data) := cell_of_block (i := 7) HR.out.msg rfl
              go_wp2_with fail
              refine HPT.out.mono ?_
              rintro e w9 ⟨rfl, hp⟩
              obtain ⟨G3, M3, -⟩ := HR.out.mids.sent hp
              have HM3 := Lib.hid (M3.done HX.out)
              clear hp M3 n0 n1 n2 n3 n4 n5 n6 n7 k0 k1 k2 k3 k4 k5 k6 k7
              go_wp2_with fail
              refine bodyPost_ret (results_none rfl _ _ _) rfl ?_
              refine ⟨rfl, ?_⟩
              rw [← HRQ.out]
              unfold recvR; rw [HASKS.out, HACT.out, HOPN.out, HOURS.out, HREF.out, HOLD.out, if_neg (by decide), if_neg (by decide), if_neg (show ¬ _ = true by rw [HCANC.out]; decide), if_neg (show ¬ _ = true by rw [HTAKE.out]; decide), if_neg (show ¬ _ = true by rw [HMORE.out]; decide), if_pos HNEED.out]
              exact HM3.out
          | false =>
          have n2 : wc.cell? ⟨sb, 2, none⟩ = some (.int .i64 s.epoch) := cell_of_block (i := 2) HR.out.box rfl
          have n4 : wc.cell? ⟨sb, 4, none⟩ = some (.string s.letter) := cell_of_block (i := 4) HR.out.box rfl
          have n7 : wc.cell? ⟨sb, 7, none⟩ = some (.slice a7 s.refuses.length c7) := cell_of_block (i := 7) HR.out.box rfl
          have k0 : wc.cell? ⟨w.heap.size, 0, none⟩ = some (.int .i64 m.kind) := cell_of_block (i := 0) HR.out.msg rfl
          have k3 : wc.cell? ⟨w.heap.size, 3, none⟩ = some (.string m.page) := cell_of_block (i := 3) HR.out.msg rfl
          go_upto_region 29 with fail
          go_cut [264] from 265 to 270 (fun u wx => u = .bool (m.kind == 4 && wait) ∧ wc = wx)
          case first =>
            as_aux_lemma =>
              cases e1 : (m.kind == 4)
              ·
                go_wp2_with fail
                go_meet
                exact ⟨congrArg Value.bool (by rw [e1]; rfl), rfl⟩
              ·
                go_wp2_with fail
                go_meet
                exact ⟨congrArg Value.bool (by rw [e1]; rfl), rfl⟩
          case rest =>
          obtain ⟨rfl, rfl⟩ := hcut
          generalize htkn : (m.kind == 4 && wait) = tkn at *
          have HTKN := Lib.hid htkn
          clear htkn
          cases tkn with
          | true =>
            as_aux_lemma =>
              obtain ⟨hbt, hct⟩ := set8 HR.out.box rfl (.string m.page) (.int .i64 5) (.int .i64 s.epoch) (.int .i64 0) (.string ⟨#[]⟩) (.slice none 0 0) (.slice none 0 0) (.slice a7 s.refuses.length c7)
              have hth := there8 (o := 0) (n := 8) HR.out.box (by show 0 + 8 ≤ 8; omega)
              have HBT := Lib.hid hbt
              have HCT := Lib.hid hct
              have HTH := Lib.hid hth
              clear hbt hct hth
              go_wp2_with (refine wpList_store_mid rfl 67 (.tmp 5) (.tmp 277) rfl sb 0 #[.string m.page, .int .i64 5, .int .i64 s.epoch, .int .i64 0, .string ⟨#[]⟩, .slice none 0 0, .slice none 0 0, .slice a7 s.refuses.length c7] rfl rfl HTH.out (by kernel_rfl) (by simp [Value.oneCell']) ?_)
              go_meet
              obtain ⟨Gn', R'⟩ := HR.out.bare HX.out (y := goneS s m) HCT.out HBT.out rfl rfl rfl
              refine ⟨goneS s m, h.out, F2, _, _, _, Gj, Gn', ?_, HSRC.out, R'⟩
              unfold recvR; rw [HASKS.out, HACT.out, HOPN.out, HOURS.out, HREF.out, HOLD.out, if_neg (by decide), if_neg (by decide), if_neg (show ¬ _ = true by rw [HCANC.out]; decide), if_neg (show ¬ _ = true by rw [HTAKE.out]; decide), if_neg (show ¬ _ = true by rw [HMORE.out]; decide), if_neg (show ¬ _ = true by rw [HNEED.out]; decide), HWAIT.out, if_pos HTKN.out]
          | false =>
          go_upto_region 31 with fail
          go_cut [278] from 279 to 284 (fun u wx => u = .bool (m.kind == 6 && wait) ∧ wc = wx)
          case first =>
            as_aux_lemma =>
              cases e1 : (m.kind == 6)
              ·
                go_wp2_with fail
                go_meet
                exact ⟨congrArg Value.bool (by rw [e1]; rfl), rfl⟩
              ·
                go_wp2_with fail
                go_meet
                exact ⟨congrArg Value.bool (by rw [e1]; rfl), rfl⟩
          case rest =>
          obtain ⟨rfl, rfl⟩ := hcut
          generalize hrfd : (m.kind == 6 && wait) = rfd at *
          have HRFD := Lib.hid hrfd
          clear hrfd
          cases rfd with
          | true =>
            as_aux_lemma =>
              have wj : IntKind.i64.wrap (s.epoch + 1) = s.epoch + 1 := IntWalk.i64_in _ (by have := HEP.out; omega)
              obtain ⟨hbt, hct⟩ := set8 HR.out.box rfl (.string m.page) (.int .i64 1) (.int .i64 (s.epoch + 1)) (.int .i64 0) (.string s.letter) (.slice none 0 0) (.slice none 0 0) (.slice a7 s.refuses.length c7)
              have hth := there8 (o := 0) (n := 8) HR.out.box (by show 0 + 8 ≤ 8; omega)
              have HBT := Lib.hid hbt
              have HCT := Lib.hid hct
              have HTH := Lib.hid hth
              clear hbt hct hth
              go_wp2_with (refine wpList_store_mid rfl 67 (.tmp 5) (.tmp 294) rfl sb 0 #[.string m.page, .int .i64 1, .int .i64 (s.epoch + 1), .int .i64 0, .string s.letter, .slice none 0 0, .slice none 0 0, .slice a7 s.refuses.length c7] rfl rfl HTH.out (by kernel_rfl) (by simp [Value.oneCell']) ?_)
              go_meet
              obtain ⟨Gn', R'⟩ := HR.out.bare HX.out (y := againS s m) HCT.out HBT.out rfl rfl rfl
              refine ⟨againS s m, h.out, F2, _, _, _, Gj, Gn', ?_, HSRC.out, R'⟩
              unfold recvR; rw [HASKS.out, HACT.out, HOPN.out, HOURS.out, HREF.out, HOLD.out, if_neg (by decide), if_neg (by decide), if_neg (show ¬ _ = true by rw [HCANC.out]; decide), if_neg (show ¬ _ = true by rw [HTAKE.out]; decide), if_neg (show ¬ _ = true by rw [HMORE.out]; decide), if_neg (show ¬ _ = true by rw [HNEED.out]; decide), HWAIT.out, if_neg (show ¬ _ = true by rw [HTKN.out]; decide), if_pos HRFD.out]
          | false =>
          as_aux_lemma =>
            have HM3 := Lib.hid (HR.out.mids.done HX.out)
            go_wp2_with fail
            refine bodyPost_ret (results_none rfl _ _ _) rfl ?_
            refine ⟨rfl, ?_⟩
            rw [← HRQ.out]
            unfold recvR; rw [HASKS.out, HACT.out, HOPN.out, HOURS.out, HREF.out, HOLD.out, if_neg (by decide), if_neg (by decide), if_neg (show ¬ _ = true by rw [HCANC.out]; decide), if_neg (show ¬ _ = true by rw [HTAKE.out]; decide), if_neg (show ¬ _ = true by rw [HMORE.out]; decide), if_neg (show ¬ _ = true by rw [HNEED.out]; decide), HWAIT.out, if_neg (show ¬ _ = true by rw [HTKN.out]; decide), if_neg (show ¬ _ = true by rw [HRFD.out]; decide)]
            exact HM3.out
        case rest =>
        skip
        obtain ⟨y, out', G2, u5', u6', u7', Gj2, Gn2, hrq, hsrc2, R2⟩ := hcut
        have HQ : Hid (putH h m y out' = receiveM h m) := Lib.hid (by rw [← hrq, HRQ.out])
        obtain ⟨r5, r6, r7, -⟩ := seat_rows R2.own
        obtain ⟨b5, d5, rfl, -, -⟩ := r5.slice
        obtain ⟨b6, d6, rfl, -, -⟩ := r6.slice
        obtain ⟨b7, d7, rfl, -, -⟩ := r7.slice
        have HR2 := Lib.hid R2
        have HS2 := Lib.hid hsrc2
        clear hrq hsrc2 R2 r5 r6 r7 n1 n2 n3 n4 n5 n7 k0 k1 k3 k4 k5 k6 HR HR7 HMC HSRC
        have hi := HIX.out
        cases hf : findS m.page h.seats 0 with
        | none =>
          rw [hf] at hi
          have hi2 : ix = -1 := hi.symm
          have HF := Lib.hid hf
          clear hi hf
          subst hi2
          go_upto_region 34 with fail
          obtain ⟨xs, hrows, hpush⟩ := HX.out.push
          have hrow := hrows _ _ _ HR2.out.mids
          obtain ⟨av, cv, rfl, -, -⟩ := hrow.slice
          have hbx := HR2.out.mids.out.boxed
          obtain ⟨cb, Tb, hbx⟩ := hbx
          have hnb : ¬ (Value.slice av h.seats.length cv).ownBlock = some b := fun e => by
            obtain ⟨xs', Fs', hop⟩ := Rep.opened HX.out.seats
            exact HX.out.nd.2.2.2.1 (by rw [hop.fp]; exact List.mem_append_left _ (mem_ownL.2 e))
          have c1 := (HR2.out.mids.cells HX.out).2
          have HE := Lib.hid elem_seat
          have HNB := Lib.hid hnb
          have HBC := Lib.hid hbx
          have HRC := Lib.hid hrow
          have HOF : Hid (∀ k, (Value.slice av h.seats.length cv).ownBlock = some k → k ∈ F1) := Lib.hid (fun k e => by
            obtain ⟨xs', Fs', hop⟩ := Rep.opened HX.out.seats
            rw [hop.fp]; exact List.mem_append_left _ (mem_ownL.2 e))
          have hcb : cb[o + 1]? = some (.slice av h.seats.length cv) := by simpa [World.cell?, hbx] using c1
          have HCB := Lib.hid hcb
          have HPU := Lib.hid hpush
          have HSL := Lib.hid HK.out.seats
          have HS0 : Hid (wc.cell? ⟨b, o + 1, none⟩ = some (.slice av h.seats.length cv) ∧ wc.cell? ⟨sb, 0, none⟩ = some (.string y.page) ∧ wc.cell? ⟨sb, 1, none⟩ = some (.int .i64 y.state) ∧ wc.cell? ⟨sb, 2, none⟩ = some (.int .i64 y.epoch) ∧ wc.cell? ⟨sb, 3, none⟩ = some (.int .i64 y.peer) ∧ wc.cell? ⟨sb, 4, none⟩ = some (.string y.letter) ∧ wc.cell? ⟨sb, 5, none⟩ = some (.slice b5 y.parts.length d5) ∧ wc.cell? ⟨sb, 6, none⟩ = some (.slice b6 y.have_.length d6) ∧ wc.cell? ⟨sb, 7, none⟩ = some (.slice b7 y.refuses.length d7)) := Lib.hid ⟨c1, cell_of_block (i := 0) HR2.out.box rfl, cell_of_block (i := 1) HR2.out.box rfl, cell_of_block (i := 2) HR2.out.box rfl, cell_of_block (i := 3) HR2.out.box rfl, cell_of_block (i := 4) HR2.out.box rfl, cell_of_block (i := 5) HR2.out.box rfl, cell_of_block (i := 6) HR2.out.box rfl, cell_of_block (i := 7) HR2.out.box rfl⟩
          clear hrows hpush hrow hbx hnb c1 hcb
          refine wp_region_held_split 10 (fun w' => w'.cell? ⟨b, o + 1, none⟩ = some (.slice av h.seats.length cv) ∧ w'.cell? ⟨sb, 0, none⟩ = some (.string y.page) ∧ w'.cell? ⟨sb, 1, none⟩ = some (.int .i64 y.state) ∧ w'.cell? ⟨sb, 2, none⟩ = some (.int .i64 y.epoch) ∧ w'.cell? ⟨sb, 3, none⟩ = some (.int .i64 y.peer) ∧ w'.cell? ⟨sb, 4, none⟩ = some (.string y.letter) ∧ w'.cell? ⟨sb, 5, none⟩ = some (.slice b5 y.parts.length d5) ∧ w'.cell? ⟨sb, 6, none⟩ = some (.slice b6 y.have_.length d6) ∧ w'.cell? ⟨sb, 7, none⟩ = some (.slice b7 y.refuses.length d7)) (by kernel_rfl) (by kernel_rfl) ?_ (fun hHeld => ?_)
          · (first | with_reducible exact hkq | with_reducible exact HS0.out | with_reducible exact HKS.out _ HA0.out | exact HS0.out)
          simp only [List.take_succ_cons, List.take_zero]
          have HBX : Hid (wc.drew.heap[sb]? = some (.cells #[.string y.page, .int .i64 y.state, .int .i64 y.epoch, .int .i64 y.peer, .string y.letter, .slice b5 y.parts.length d5, .slice b6 y.have_.length d6, .slice b7 y.refuses.length d7] 67 (0, 0))) := Lib.hid HR2.out.box
          have HCD : Hid (Chg (fun _ => False) wc wc.drew) := Lib.hid (Chg.refl _ wc).drewR
          have HBB := Lib.hid (HCD.out.keep HBC.out (fun x => x))
          have HRD := Lib.hid (HRC.out.drew)
          have HNS : Hid (¬ (Value.slice av h.seats.length cv).ownBlock = some sb) := Lib.hid (fun e => by
            have h1 := HX.out.lt.2.1 sb (HOF.out sb e)
            have h2 := HR2.out.lo
            omega)
          generalize hwD : wc.drew = wD at *
          have HWD := Lib.hid hwD
          have HKS : Hid (∀ W, Chg (fun k => (Value.slice av h.seats.length cv).ownBlock = some k) wD W → W.cell? ⟨b, o + 1, none⟩ = some (.slice av h.seats.length cv) ∧ W.cell? ⟨sb, 0, none⟩ = some (.string y.page) ∧ W.cell? ⟨sb, 1, none⟩ = some (.int .i64 y.state) ∧ W.cell? ⟨sb, 2, none⟩ = some (.int .i64 y.epoch) ∧ W.cell? ⟨sb, 3, none⟩ = some (.int .i64 y.peer) ∧ W.cell? ⟨sb, 4, none⟩ = some (.string y.letter) ∧ W.cell? ⟨sb, 5, none⟩ = some (.slice b5 y.parts.length d5) ∧ W.cell? ⟨sb, 6, none⟩ = some (.slice b6 y.have_.length d6) ∧ W.cell? ⟨sb, 7, none⟩ = some (.slice b7 y.refuses.length d7)) := Lib.hid (fun W hc => by
            have hb := hc.keep HBB.out HNB.out
            have hs := hc.keep HBX.out HNS.out
            exact ⟨cell_of_block (i := o + 1) hb HCB.out, cell_of_block (i := 0) hs rfl, cell_of_block (i := 1) hs rfl, cell_of_block (i := 2) hs rfl, cell_of_block (i := 3) hs rfl, cell_of_block (i := 4) hs rfl, cell_of_block (i := 5) hs rfl, cell_of_block (i := 6) hs rfl, cell_of_block (i := 7) hs rfl⟩)
          have HA0 := Lib.hid (Chg.alloc (fun k => (Value.slice av h.seats.length cv).ownBlock = some k) wD (.cells #[.string y.page, .int .i64 y.state, .int .i64 y.epoch, .int .i64 y.peer, .string y.letter, .slice b5 y.parts.length d5, .slice b6 y.have_.length d6, .slice b7 y.refuses.length d7] 67))
          have HAF := Lib.hid (Chg.alloc (fun _ => False) wD (.cells #[.string y.page, .int .i64 y.state, .int .i64 y.epoch, .int .i64 y.peer, .string y.letter, .slice b5 y.parts.length d5, .slice b6 y.have_.length d6, .slice b7 y.refuses.length d7] 67))
          have HRA := Lib.hid (HRD.out.alloc (.cells #[.string y.page, .int .i64 y.state, .int .i64 y.epoch, .int .i64 y.peer, .string y.letter, .slice b5 y.parts.length d5, .slice b6 y.have_.length d6, .slice b7 y.refuses.length d7] 67))
          have HGA := Lib.hid (alloc_block wD (.cells #[.string y.page, .int .i64 y.state, .int .i64 y.epoch, .int .i64 y.peer, .string y.letter, .slice b5 y.parts.length d5, .slice b6 y.have_.length d6, .slice b7 y.refuses.length d7] 67))
          have HCA := Lib.hid (HCD.out.trans' HAF.out)
          have HBA := Lib.hid (HAF.out.keep HBB.out (fun x => x))
          clear hwD
          refine wpAnyH_take (i := 0) (v := ?_) rfl (by kernel_rfl) (by kernel_rfl) (by kernel_rfl) (fun _ _ _ h => h) (Or.inl ⟨by rfl, ?_⟩) (by assumption) ?_
          rotate_left
          · (intro wq hSw; (try dsimp only at hSw); go_simp; (try with_reducible rfl))
          simp only [Act.put, List.getElem_toArray, List.getElem_cons_zero, List.getElem_cons_succ, List.setIfInBounds_toArray, List.set_cons_zero, List.set_cons_succ]
          refine wpAnyH_take (i := 1) (v := ?_) rfl (by kernel_rfl) (by kernel_rfl) (by kernel_rfl) (fun _ _ _ h => h) (Or.inl ⟨by rfl, ?_⟩) (by assumption) ?_
          rotate_left
          · (intro wq hSw; (try dsimp only at hSw); go_simp; (try with_reducible rfl))
          simp only [Act.put, List.getElem_toArray, List.getElem_cons_zero, List.getElem_cons_succ, List.setIfInBounds_toArray, List.set_cons_zero, List.set_cons_succ]
          refine wpAnyH_take (i := 2) (v := ?_) rfl (by kernel_rfl) (by kernel_rfl) (by kernel_rfl) (fun _ _ _ h => h) (Or.inl ⟨by rfl, ?_⟩) (by assumption) ?_
          rotate_left
          · (intro wq hSw; (try dsimp only at hSw); go_simp; (try with_reducible rfl))
          simp only [Act.put, List.getElem_toArray, List.getElem_cons_zero, List.getElem_cons_succ, List.setIfInBounds_toArray, List.set_cons_zero, List.set_cons_succ]
          refine wpAnyH_take (i := 3) (v := ?_) rfl (by kernel_rfl) (by kernel_rfl) (by kernel_rfl) (fun _ _ _ h => h) (Or.inl ⟨by rfl, ?_⟩) (by assumption) ?_
          rotate_left
          · (intro wq hSw; (try dsimp only at hSw); go_simp; (try with_reducible rfl))
          simp only [Act.put, List.getElem_toArray, List.getElem_cons_zero, List.getElem_cons_succ, List.setIfInBounds_toArray, List.set_cons_zero, List.set_cons_succ]
          refine wpAnyH_take (i := 4) (v := ?_) rfl (by kernel_rfl) (by kernel_rfl) (by kernel_rfl) (fun _ _ _ h => h) (Or.inl ⟨by rfl, ?_⟩) (by assumption) ?_
          rotate_left
          · (intro wq hSw; (try dsimp only at hSw); go_simp; (try with_reducible rfl))
          simp only [Act.put, List.getElem_toArray, List.getElem_cons_zero, List.getElem_cons_succ, List.setIfInBounds_toArray, List.set_cons_zero, List.set_cons_succ]
          refine wpAnyH_take (i := 5) (v := ?_) rfl (by kernel_rfl) (by kernel_rfl) (by kernel_rfl) (fun _ _ _ h => h) (Or.inl ⟨by rfl, ?_⟩) (by assumption) ?_
          rotate_left
          · (intro wq hSw; (try dsimp only at hSw); go_simp; (try with_reducible rfl))
          simp only [Act.put, List.getElem_toArray, List.getElem_cons_zero, List.getElem_cons_succ, List.setIfInBounds_toArray, List.set_cons_zero, List.set_cons_succ]
          refine wpAnyH_ready (rs := [6]) (by kernel_rfl) (by simp) ?_
          refine AllReadyH.cons (by simp only [List.getElem?_toArray, List.getElem?_cons_succ, List.getElem?_cons_zero]; rfl) (fun K hK => ?_) AllReadyH.nil
          go_simp
          refine hK.out _ _ ?_ (fun hHeld => ?_)
          · (first | with_reducible exact hkq | with_reducible exact HS0.out | with_reducible exact HKS.out _ HA0.out | exact HS0.out)
          clear hK K
          (try simp only [Act.put, List.getElem_toArray, List.getElem_cons_zero, List.getElem_cons_succ, List.setIfInBounds_toArray, List.set_cons_zero, List.set_cons_succ])
          refine wpAnyH_ready (rs := [7]) (by kernel_rfl) (by simp) ?_
          refine AllReadyH.cons (by simp only [List.getElem?_toArray, List.getElem?_cons_succ, List.getElem?_cons_zero]; rfl) (fun K hK => ?_) AllReadyH.nil
          (refine step_append_elem (by rfl) _ _ _ (by rfl) 67 8 128 Try.underlying23 HE.out (by decide) _ h.seats.length xs.flatten (by rfl) HRA.out [.string y.page, .int .i64 y.state, .int .i64 y.epoch, .int .i64 y.peer, .string y.letter, .slice b5 y.parts.length d5, .slice b6 y.have_.length d6, .slice b7 y.refuses.length d7] rfl wD.heap.size 67 (0, 0) (by rfl) HGA.out (by simp [Value.oneCell']) (by have := HSL.out.lt; unfold maxLen; omega) (by have := HSL.out.lt; omega) ?_; intro a2 n2' cp2 w2' hrow2 hchg2 hold2; have hkq := HKS.out _ (HA0.out.trans hchg2 (fun _ _ x => x) (fun _ _ x => x)))
          refine hK.out _ _ ?_ (fun hHeld => ?_)
          · (first | with_reducible exact hkq | with_reducible exact HS0.out | with_reducible exact HKS.out _ HA0.out | exact HS0.out)
          clear hK K
          (try simp only [Act.put, List.getElem_toArray, List.getElem_cons_zero, List.getElem_cons_succ, List.setIfInBounds_toArray, List.set_cons_zero, List.set_cons_succ])
          refine wpAnyH_take (i := 8) (v := ?_) rfl (by kernel_rfl) (by kernel_rfl) (by kernel_rfl) (fun _ _ _ h => h) (Or.inl ⟨by rfl, ?_⟩) (by assumption) ?_
          rotate_left
          · (intro wq hSw; (try dsimp only at hSw); go_simp; (try with_reducible rfl))
          simp only [Act.put, List.getElem_toArray, List.getElem_cons_zero, List.getElem_cons_succ, List.setIfInBounds_toArray, List.set_cons_zero, List.set_cons_succ]
          refine wpAnyH_take (i := 9) (v := ?_) rfl (by kernel_rfl) (by kernel_rfl) (by kernel_rfl) (fun _ _ _ h => h) (Or.inl ⟨by rfl, ?_⟩) (by assumption) ?_
          rotate_left
          · (intro wq hSw; (try dsimp only at hSw); go_simp; (try with_reducible rfl))
          simp only [Act.put, List.getElem_toArray, List.getElem_cons_zero, List.getElem_cons_succ, List.setIfInBounds_toArray, List.set_cons_zero, List.set_cons_succ]
          refine wpAnyH_done (by kernel_rfl) ?_ _
          change wpList _ _ _ _ _ _
          simp only [List.drop_succ_cons, List.drop_zero]
          have hb2 := hchg2.keep HBA.out HNB.out
          have cc2 := cell_of_block (i := o + 1) hb2 HCB.out
          have ff2 := frozen_of_block (i := o + 1) hb2
          have HP2 := Lib.hid (HPU.out wc out' G2 _ y Gn2 _ w2' _ HR2.out.mids HCA.out HR2.out.own HR2.out.nd (fun k hk => ⟨by have hs := HS2.out.2; rw [HF.out] at hs; rcases (HR2.out.src k hk).1 with q | q; (rw [hs] at q; cases q); exact q, (HR2.out.src k hk).2.1⟩) hrow2 hchg2 hold2)
          clear hb2 hrow2 hchg2 hold2 hkq
          go_wp2_with fail
          go_end0
          refine ⟨rfl, ?_⟩
          rw [← HQ.out]
          unfold putH
          rw [HF.out]
          exact HP2.out
        | some j =>
          have hj : j < h.seats.length := by have := findS_lt m.page h.seats 0 j hf; omega
          rw [hf] at hi
          have hi2 : ix = (j : Int) := hi.symm
          have HF := Lib.hid hf
          have HJ := Lib.hid hj
          have i0 : (0 : Int) ≤ (j : Int) := Int.natCast_nonneg _
          have i3 : decide ((j : Int) < 0) = false := decide_eq_false (by omega)
          clear hi hf hj
          subst hi2
          go_upto_region 35 with fail
          have hj := HJ.out
          have i1 : (j : Int) < (h.seats.length : Int) := by omega
          obtain ⟨g, off, cap, hv⟩ := hostRow HH.out (by omega)
          have hvs : vs = .slice (some ⟨g, off, none⟩) h.seats.length cap := by
            have := HX.out.c1
            rw [hv] at this
            exact (Option.some.inj this).symm
          obtain ⟨hgF, Gj', HS', -, -⟩ := HX.out.set hvs hj
          obtain ⟨cb, T, w5', w6', w7', hblk, hsz, -, q0, q1, q2, q3, q4, q5, q6, q7⟩ := seatBlock HS'
          have hap := HR2.out.mids.apart HX.out g hgF
          have hgc := HR2.out.mids.step.chg.keep hblk (fun x => x.elim hap.2.2 hap.2.1)
          have HBK := Lib.hid ((HR2.out.still (Chg.refl _ wc).drewR).back HX.out HF.out hj hvs HS2.out)
          have c1 : wc.cell? ⟨b, o + 1, none⟩ = some (.slice (some ⟨g, off, none⟩) h.seats.length cap) := by rw [← hvs]; exact (HR2.out.mids.cells HX.out).2
          have HS0 : Hid (wc.cell? ⟨b, o + 1, none⟩ = some (.slice (some ⟨g, off, none⟩) h.seats.length cap) ∧ wc.cell? ⟨sb, 0, none⟩ = some (.string y.page) ∧ wc.cell? ⟨sb, 1, none⟩ = some (.int .i64 y.state) ∧ wc.cell? ⟨sb, 2, none⟩ = some (.int .i64 y.epoch) ∧ wc.cell? ⟨sb, 3, none⟩ = some (.int .i64 y.peer) ∧ wc.cell? ⟨sb, 4, none⟩ = some (.string y.letter) ∧ wc.cell? ⟨sb, 5, none⟩ = some (.slice b5 y.parts.length d5) ∧ wc.cell? ⟨sb, 6, none⟩ = some (.slice b6 y.have_.length d6) ∧ wc.cell? ⟨sb, 7, none⟩ = some (.slice b7 y.refuses.length d7)) := Lib.hid ⟨c1, cell_of_block (i := 0) HR2.out.box rfl, cell_of_block (i := 1) HR2.out.box rfl, cell_of_block (i := 2) HR2.out.box rfl, cell_of_block (i := 3) HR2.out.box rfl, cell_of_block (i := 4) HR2.out.box rfl, cell_of_block (i := 5) HR2.out.box rfl, cell_of_block (i := 6) HR2.out.box rfl, cell_of_block (i := 7) HR2.out.box rfl⟩
          have HTH : Hid (wc.drew.there g (off + j * 8) 8) := Lib.hid (there8 (w := wc.drew) hgc hsz)
          have HIJ : Hid ((0 : Int) ≤ (j : Int) ∧ (j : Int) < (h.seats.length : Int)) := Lib.hid ⟨i0, i1⟩
          clear hv hvs hgF HS' hblk hsz q0 q1 q2 q3 q4 q5 q6 q7 hap hgc hj c1
          refine wp_region_held_split 7 (fun w' => w'.cell? ⟨b, o + 1, none⟩ = some (.slice (some ⟨g, off, none⟩) h.seats.length cap) ∧ w'.cell? ⟨sb, 0, none⟩ = some (.string y.page) ∧ w'.cell? ⟨sb, 1, none⟩ = some (.int .i64 y.state) ∧ w'.cell? ⟨sb, 2, none⟩ = some (.int .i64 y.epoch) ∧ w'.cell? ⟨sb, 3, none⟩ = some (.int .i64 y.peer) ∧ w'.cell? ⟨sb, 4, none⟩ = some (.string y.letter) ∧ w'.cell? ⟨sb, 5, none⟩ = some (.slice b5 y.parts.length d5) ∧ w'.cell? ⟨sb, 6, none⟩ = some (.slice b6 y.have_.length d6) ∧ w'.cell? ⟨sb, 7, none⟩ = some (.slice b7 y.refuses.length d7)) (by kernel_rfl) (by kernel_rfl) ?_ (fun hHeld => ?_)
          · (exact HS0.out)
          simp only [List.take_succ_cons, List.take_zero]
          refine wpAnyH_take (i := 0) (v := ?_) rfl (by kernel_rfl) (by kernel_rfl) (by kernel_rfl) (fun _ _ _ h => h) (Or.inl ⟨by rfl, ?_⟩) (by assumption) ?_
          rotate_left
          · (intro wq hSw; (try dsimp only at hSw); go_simp; (try with_reducible rfl))
          simp only [Act.put, List.getElem_toArray, List.getElem_cons_zero, List.getElem_cons_succ, List.setIfInBounds_toArray, List.set_cons_zero, List.set_cons_succ]
          refine wpAnyH_take (i := 1) (v := ?_) rfl (by kernel_rfl) (by kernel_rfl) (by kernel_rfl) (fun _ _ _ h => h) (Or.inl ⟨by rfl, ?_⟩) (by assumption) ?_
          rotate_left
          · (intro wq hSw; (try dsimp only at hSw); go_simp; (try with_reducible rfl))
          simp only [Act.put, List.getElem_toArray, List.getElem_cons_zero, List.getElem_cons_succ, List.setIfInBounds_toArray, List.set_cons_zero, List.set_cons_succ]
          refine wpAnyH_take (i := 2) (v := ?_) rfl (by kernel_rfl) (by kernel_rfl) (by kernel_rfl) (fun _ _ _ h => h) (Or.inl ⟨by rfl, ?_⟩) (by assumption) ?_
          rotate_left
          · (intro wq hSw; (try dsimp only at hSw); go_simp; (try with_reducible rfl))
          simp only [Act.put, List.getElem_toArray, List.getElem_cons_zero, List.getElem_cons_succ, List.setIfInBounds_toArray, List.set_cons_zero, List.set_cons_succ]
          refine wpAnyH_take (i := 3) (v := ?_) rfl (by kernel_rfl) (by kernel_rfl) (by kernel_rfl) (fun _ _ _ h => h) (Or.inl ⟨by rfl, ?_⟩) (by assumption) ?_
          rotate_left
          · (intro wq hSw; (try dsimp only at hSw); go_simp; (try with_reducible rfl))
          simp only [Act.put, List.getElem_toArray, List.getElem_cons_zero, List.getElem_cons_succ, List.setIfInBounds_toArray, List.set_cons_zero, List.set_cons_succ]
          refine wpAnyH_take (i := 4) (v := ?_) rfl (by kernel_rfl) (by kernel_rfl) (by kernel_rfl) (fun _ _ _ h => h) (Or.inl ⟨by rfl, ?_⟩) (by assumption) ?_
          rotate_left
          · (intro wq hSw; (try dsimp only at hSw); go_simp; (try with_reducible rfl))
          simp only [Act.put, List.getElem_toArray, List.getElem_cons_zero, List.getElem_cons_succ, List.setIfInBounds_toArray, List.set_cons_zero, List.set_cons_succ]
          refine wpAnyH_take (i := 5) (v := ?_) rfl (by kernel_rfl) (by kernel_rfl) (by kernel_rfl) (fun _ _ _ h => h) (Or.inl ⟨by rfl, ?_⟩) (by assumption) ?_
          rotate_left
          · (intro wq hSw; (try dsimp only at hSw); go_simp; (try with_reducible rfl))
          simp only [Act.put, List.getElem_toArray, List.getElem_cons_zero, List.getElem_cons_succ, List.setIfInBounds_toArray, List.set_cons_zero, List.set_cons_succ]
          refine wpAnyH_take (i := 6) (v := ?_) rfl (by kernel_rfl) (by kernel_rfl) (by kernel_rfl) (fun _ _ _ h => h) (Or.inl ⟨by rfl, ?_⟩) (by assumption) ?_
          rotate_left
          · (intro wq hSw; (try dsimp only at hSw); go_simp; (try with_reducible rfl))
          simp only [Act.put, List.getElem_toArray, List.getElem_cons_zero, List.getElem_cons_succ, List.setIfInBounds_toArray, List.set_cons_zero, List.set_cons_succ]
          refine wpAnyH_done (by kernel_rfl) ?_ _
          change wpList _ _ _ _ _ _
          simp only [List.drop_succ_cons, List.drop_zero]
          refine wpList_store_mid rfl 67 (.tmp 313) (.tmp 312) rfl g (off + j * 8) #[.string y.page, .int .i64 y.state, .int .i64 y.epoch, .int .i64 y.peer, .string y.letter, .slice b5 y.parts.length d5, .slice b6 y.have_.length d6, .slice b7 y.refuses.length d7] rfl rfl HTH.out (by kernel_rfl) (by simp [Value.oneCell']) ?_
          go_wp2_with fail
          go_end0
          refine ⟨rfl, ?_⟩
          rw [← HQ.out]
          exact HBK.out
    · have hM : receiveM h m = h := by unfold receiveM; rw [if_pos (.inr hd)]
      have q1 : (m.dst != h.id) = true := by simpa using hd
      have HM := Lib.hid hM
      clear hd hfm hM
      refine wp_region_later (by kernel_rfl) (by kernel_rfl) ?_
      repeat (go_big_quiet_step ((go_at_call 20; exact Later.call (HFF.out _))))
      refine wpQuiet_nil ?_
      rintro _ ⟨x, rfl⟩
      go_wp2_with fail
      refine bodyPost_ret (results_none rfl _ _ _) rfl ?_
      rw [HM.out]
      exact ⟨rfl, hostStill HH.out (HC1.out.trans' x.chg)⟩
end Go.Proofs.Ytkoopagjjmdodaa
