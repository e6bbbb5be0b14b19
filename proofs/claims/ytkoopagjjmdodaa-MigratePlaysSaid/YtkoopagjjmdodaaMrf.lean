/-
  The machine of layer 54, receiving: cancel.
-/
import Derived.Test.YtkoopagjjmdodaaMre
namespace Go.Proofs.Ytkoopagjjmdodaa
open Go.RowKit
set_option linter.unusedVariables false
set_option linter.unusedSimpArgs false

theorem elem_int : Elem Try.prog 3 1 8 := elem_of (by kernel_rfl)
def blankSeat (page : ByteArray) : Seat := ⟨page, 0, 0, 0, ⟨#[]⟩, [], [], []⟩
def refuseS (s : Seat) (ep : Int) : Seat := if s.state = 4 then { resetS s 0 0 with refuses := s.refuses ++ [ep] } else { s with refuses := s.refuses ++ [ep] }
def answerM (h : Host) (m : Msg) (kd : Int) : Msg := ⟨kd, h.id, m.frm, m.page, m.epoch, 0, 0, ⟨#[]⟩⟩

set_option maxHeartbeats 3200000 in
set_option maxRecDepth 100000 in
theorem cancel_some (w : World) (b o : Nat) (h : Host) (F : List Nat) (m : Msg) (g off n cap j : Nat) (H : Here hostR w b o h F) (hv0 : w.cell? ⟨b, o + 1, none⟩ = some (.slice (some ⟨g, off, none⟩) n cap)) (hj : j < h.seats.length)
    (hol : Few h.out.length) (hrf : h.seats[j].refuses.length < 1000000000) :
    Calls Try.prog 58 #[.pointer (some ⟨b, o, none⟩), .pointer (some ⟨g, off + j * 8, none⟩), .agg m.cells.toArray] w fun e w' => e = .returned (.tuple #[]) ∧
      HostPost w b o (if (freeM h.seats[j] || fromB h.seats[j] m) = true then { h with seats := h.seats.set j (refuseS h.seats[j] m.epoch), out := h.out ++ [answerM h m 6] } else h) F w' := by
  have RX0 := Rx.start H m
  have hc0 := Chg.alloc (fun _ => False) w (.cells #[.int .i64 m.kind, .int .i64 m.frm, .int .i64 m.dst, .string m.page, .int .i64 m.epoch, .int .i64 m.index, .int .i64 m.count, .string m.data] 39)
  have hv := hc0.cell hv0
  have HRF := Lib.hid hrf
  have HOL := Lib.hid hol
  have HMC : Hid (m.cells.toArray = #[.int .i64 m.kind, .int .i64 m.frm, .int .i64 m.dst, .string m.page, .int .i64 m.epoch, .int .i64 m.index, .int .i64 m.count, .string m.data]) := Lib.hid rfl
  clear hv0 H hc0 hrf hol
  unfold Msg.cells
  change Rx w (w.alloc (.cells #[.int .i64 m.kind, .int .i64 m.frm, .int .i64 m.dst, .string m.page, .int .i64 m.epoch, .int .i64 m.index, .int .i64 m.count, .string m.data] 39)) b o F m h at RX0
  obtain ⟨G0, HS0, -, hback0⟩ := RX0.seat hv hj
  have hs0 := seatCells HS0
  have HFR := Lib.hid (free_some _ g (off + j * 8) h.seats[j] G0 HS0)
  have HFM := Lib.hid (from_any _ g (off + j * 8) h.seats[j] G0 m HS0)
  cases hfr : freeM h.seats[j] with
  | true =>
    rw [hfr] at HFR
    rw [Bool.true_or, if_pos rfl]
    have h4 : ¬ h.seats[j].state = 4 := by
      intro e
      unfold freeM at hfr
      rw [e] at hfr
      cases hfr
    have hM : refuseS h.seats[j] m.epoch = { h.seats[j] with refuses := h.seats[j].refuses ++ [m.epoch] } := by unfold refuseS; rw [if_neg h4]
    rw [hM]
    have q4 : (h.seats[j].state == 4) = false := by simpa using h4
    clear hM h4 hfr hback0 HS0 HFM
    go_enter Try.func58, Try.ntmps58
    go_upto_region 1 with fail
    generalize w.alloc (.cells #[.int .i64 m.kind, .int .i64 m.frm, .int .i64 m.dst, .string m.page, .int .i64 m.epoch, .int .i64 m.index, .int .i64 m.count, .string m.data] 39) = w1 at *
    obtain ⟨v5, v6, v7, s0, s1, s2, s3, -⟩ := hs0
    go_wp2_with fail
    refine HFR.out.mono ?_
    rintro e w2 ⟨rfl, rfl⟩
    have RX := RX0
    clear RX0
    go_upto_region 7 with fail
    clear s0 s1 s2 s3 q4 HFR

    have RXd := RX.still ((Chg.refl _ w1).drewR)
    have hvd := (Chg.refl (fun _ => False) w1).drewR.cell hv
    obtain ⟨G7, HS7, hnb7, hback7⟩ := RXd.seat hvd hj
    have hrl : h.seats[j].refuses.length < 1000000000 := HRF.out
    generalize hy7 : h.seats[j] = y7 at *
    have HY7 := Lib.hid hy7
    clear hy7
    obtain ⟨p7, k7, xs7, Fs7, Fr7, d7, hopen7, -, haft7, hfin7⟩ := HS7.fieldAppending seatR_refuses (by show 0 < 8; decide)
    obtain ⟨b0, b1, b2, b3, b4, b5, b6, b7⟩ := RXd.cells
    have HEI := Lib.hid elem_int
    have HBX := Lib.hid RXd.box
    have HNO : Hid (¬ (Value.slice p7 y7.refuses.length k7).ownBlock = some w.heap.size) := Lib.hid (fun e => hnb7 _ (HS7.ownIn seatR_refuses (by show 0 < 8; decide) d7 _ e) rfl)
    have HRL := Lib.hid hrl
    have HOP7 := Lib.hid hopen7
    have HAFT7 := Lib.hid haft7
    have HFIN7 := Lib.hid hfin7
    have HBK7 := Lib.hid (fun y w'' (hp : SeatPost w1.drew g (off + j * 8) y G7 w'') => hback7 y w'' hp)
    clear hopen7 haft7 hfin7 hback7 hnb7 HS7 RXd RX hvd hv hrl b0 b1 b2 b3 b5 b6 b7
    refine wp_region_held_split 11 (fun w' => w'.cell? ⟨g, off + j * 8 + 7, none⟩ = some (.slice p7 y7.refuses.length k7) ∧ w'.cell? ⟨w.heap.size, 4, none⟩ = some (.int .i64 m.epoch)) (by kernel_rfl) (by kernel_rfl) ?_ (fun hHeld => ?_)
    · (first | exact ⟨d7, b4⟩ | exact ⟨q8, cell_of_block (i := 4) m8 rfl⟩ | exact ⟨hchA7.cell d7, hchA7.cell b4⟩)
    simp only [List.take_succ_cons, List.take_zero]
    generalize w1.drew = wD at *
    have hrow7 := HOP7.out.row.alloc (.cells #[.int .i64 m.epoch] 3)
    have hchA7 := Chg.alloc (fun _ => False) wD (.cells #[.int .i64 m.epoch] 3)
    refine wpAnyH_take (i := 0) (v := ?_) rfl (by kernel_rfl) (by kernel_rfl) (by kernel_rfl) (fun _ _ _ h => h) (Or.inl ⟨by rfl, ?_⟩) (by assumption) ?_
    rotate_left
    · (intro wq hSw; (try dsimp only at hSw); go_simp; (try with_reducible rfl))
    simp only [Act.put, List.getElem_toArray, List.getElem_cons_zero, List.getElem_cons_succ, List.setIfInBounds_toArray, List.set_cons_zero, List.set_cons_succ]
    refine wpAnyH_take (i := 1) (v := ?_) rfl (by kernel_rfl) (by kernel_rfl) (by kernel_rfl) (fun _ _ _ h => h) (Or.inl ⟨by rfl, ?_⟩) (by assumption) ?_
    rotate_left
    · (intro wq hSw; (try dsimp only at hSw); go_simp; (try with_reducible rfl))
    simp only [Act.put, List.getElem_toArray, List.getElem_cons_zero, List.getElem_cons_succ, List.setIfInBounds_toArray, List.set_cons_zero, List.set_cons_succ]
    refine wpAnyH_take (i := 2) (v := ?_) rfl (by kernel_rfl) (by kernel_rfl) (by kernel_rfl) (fun _ _ _ h => h) (Or.inl ⟨by rfl, ?_⟩) (by assumption) ?_
    rotate_left
    · (intro wq hSw; (try dsimp only at hSw); go_simp; (try with_reducible rfl))
    simp only [Act.put, List.getElem_toArray, List.getElem_cons_zero, List.getElem_cons_succ, List.setIfInBounds_toArray, List.set_cons_zero, List.set_cons_succ]
    refine wpAnyH_take (i := 3) (v := ?_) rfl (by kernel_rfl) (by kernel_rfl) (by kernel_rfl) (fun _ _ _ h => h) (Or.inl ⟨by rfl, ?_⟩) (by assumption) ?_
    rotate_left
    · (intro wq hSw; (try dsimp only at hSw); go_simp; (try with_reducible rfl))
    simp only [Act.put, List.getElem_toArray, List.getElem_cons_zero, List.getElem_cons_succ, List.setIfInBounds_toArray, List.set_cons_zero, List.set_cons_succ]
    refine wpAnyH_take (i := 4) (v := ?_) rfl (by kernel_rfl) (by kernel_rfl) (by kernel_rfl) (fun _ _ _ h => h) (Or.inl ⟨by rfl, ?_⟩) (by assumption) ?_
    rotate_left
    · (intro wq hSw; (try dsimp only at hSw); go_simp; (try with_reducible rfl))
    simp only [Act.put, List.getElem_toArray, List.getElem_cons_zero, List.getElem_cons_succ, List.setIfInBounds_toArray, List.set_cons_zero, List.set_cons_succ]
    refine wpAnyH_take (i := 5) (v := ?_) rfl (by kernel_rfl) (by kernel_rfl) (by kernel_rfl) (fun _ _ _ h => h) (Or.inl ⟨by rfl, ?_⟩) (by assumption) ?_
    rotate_left
    · (intro wq hSw; (try dsimp only at hSw); go_simp; (try with_reducible rfl))
    simp only [Act.put, List.getElem_toArray, List.getElem_cons_zero, List.getElem_cons_succ, List.setIfInBounds_toArray, List.set_cons_zero, List.set_cons_succ]
    refine wpAnyH_take (i := 6) (v := ?_) rfl (by kernel_rfl) (by kernel_rfl) (by kernel_rfl) (fun _ _ _ h => h) (Or.inl ⟨by rfl, ?_⟩) (by assumption) ?_
    rotate_left
    · (intro wq hSw; (try dsimp only at hSw); go_simp; (try with_reducible rfl))
    simp only [Act.put, List.getElem_toArray, List.getElem_cons_zero, List.getElem_cons_succ, List.setIfInBounds_toArray, List.set_cons_zero, List.set_cons_succ]
    refine wpAnyH_ready (rs := [7]) (by kernel_rfl) (by simp) ?_
    refine AllReadyH.cons (by simp only [List.getElem?_toArray, List.getElem?_cons_succ, List.getElem?_cons_zero]; rfl) (fun K hK => ?_) AllReadyH.nil
    go_simp
    refine hK.out _ _ ?_ (fun hHeld => ?_)
    · (first | exact ⟨d7, b4⟩ | exact ⟨q8, cell_of_block (i := 4) m8 rfl⟩ | exact ⟨hchA7.cell d7, hchA7.cell b4⟩)
    clear hK K
    (try simp only [Act.put, List.getElem_toArray, List.getElem_cons_zero, List.getElem_cons_succ, List.setIfInBounds_toArray, List.set_cons_zero, List.set_cons_succ])
    refine wpAnyH_ready (rs := [8]) (by kernel_rfl) (by simp) ?_
    refine AllReadyH.cons (by simp only [List.getElem?_toArray, List.getElem?_cons_succ, List.getElem?_cons_zero]; rfl) (fun K hK => ?_) AllReadyH.nil
    (refine step_append_elem (by rfl) (.tmp 44) (.tmp 47) 65 (by rfl) 3 1 8 Try.underlying65 HEI.out (by decide) _ y7.refuses.length xs7.flatten (by rfl) hrow7 [.int .i64 m.epoch] rfl wD.heap.size 3 (0, 0) (by rfl) (alloc_block wD _) (by simp [Value.oneCell']) (by have := HRL.out; unfold maxLen; omega) (by have := HRL.out; omega) ?_; intro a8 n8 c8 w8 hrow8 hchg8 hold8; obtain ⟨q8, z8⟩ := HAFT7.out _ _ hchA7 hchg8; have m8 := hchg8.keep (hchA7.keep HBX.out (fun x => x)) HNO.out)
    refine hK.out _ _ ?_ (fun hHeld => ?_)
    · (first | exact ⟨d7, b4⟩ | exact ⟨q8, cell_of_block (i := 4) m8 rfl⟩ | exact ⟨hchA7.cell d7, hchA7.cell b4⟩)
    clear hK K
    (try simp only [Act.put, List.getElem_toArray, List.getElem_cons_zero, List.getElem_cons_succ, List.setIfInBounds_toArray, List.set_cons_zero, List.set_cons_succ])
    refine wpAnyH_take (i := 9) (v := ?_) rfl (by kernel_rfl) (by kernel_rfl) (by kernel_rfl) (fun _ _ _ h => h) (Or.inl ⟨by rfl, ?_⟩) (by assumption) ?_
    rotate_left
    · (intro wq hSw; (try dsimp only at hSw); go_simp; (try with_reducible rfl))
    simp only [Act.put, List.getElem_toArray, List.getElem_cons_zero, List.getElem_cons_succ, List.setIfInBounds_toArray, List.set_cons_zero, List.set_cons_succ]
    refine wpAnyH_take (i := 10) (v := ?_) rfl (by kernel_rfl) (by kernel_rfl) (by kernel_rfl) (fun _ _ _ h => h) (Or.inl ⟨by rfl, ?_⟩) (by assumption) ?_
    rotate_left
    · (intro wq hSw; (try dsimp only at hSw); go_simp; (try with_reducible rfl))
    simp only [Act.put, List.getElem_toArray, List.getElem_cons_zero, List.getElem_cons_succ, List.setIfInBounds_toArray, List.set_cons_zero, List.set_cons_succ]
    refine wpAnyH_done (by kernel_rfl) ?_ _
    change wpList _ _ _ _ _ _
    simp only [List.drop_succ_cons, List.drop_zero]
    have hp8 := HFIN7.out _ _ [.int .i64 m.epoch] m.epoch [] _ hchA7 ⟨rfl, rfl⟩ (by simp) (by simp) hrow8 hchg8 hold8
    obtain ⟨RX8, hv8⟩ := HBK7.out _ _ hp8
    obtain ⟨b0, b1, b2, b3, b4, b5, b6, b7⟩ := RX8.cells
    have HX8 := Lib.hid RX8
    clear hp8 hrow8 hchg8 hold8 hrow7 hchA7 RX8 hv8 m8
    go_wp2_with fail
    refine (HX8.out.answer 6 HOL.out).mono ?_
    rintro e w9 ⟨rfl, RX9⟩
    go_wp2_with fail
    go_end0
    exact ⟨rfl, by rw [HY7.out]; exact RX9.post⟩
  | false =>
    rw [hfr] at HFR
    rw [Bool.false_or]
    cases hfm : fromB h.seats[j] m with
    | false =>
      rw [hfm] at HFM
      rw [if_neg (by simp)]
      clear hfr hfm hback0 HS0 hs0
      go_enter Try.func58, Try.ntmps58
      go_upto_region 1 with fail
      generalize w.alloc (.cells #[.int .i64 m.kind, .int .i64 m.frm, .int .i64 m.dst, .string m.page, .int .i64 m.epoch, .int .i64 m.index, .int .i64 m.count, .string m.data] 39) = w1 at *
      obtain ⟨b0, b1, b2, b3, b4, b5, b6, b7⟩ := RX0.cells
      go_wp2_with fail
      refine HFR.out.mono ?_
      rintro e w2 ⟨rfl, rfl⟩
      go_wp2_with fail
      refine HFM.out.mono ?_
      rintro e w2 ⟨rfl, hc2⟩
      go_wp2_with fail
      refine bodyPost_ret (results_none rfl _ _ _) rfl ?_
      exact ⟨rfl, (RX0.still hc2).post⟩
    | true =>
      rw [hfm] at HFM
      rw [if_pos rfl]
      have h4 : h.seats[j].state = 4 := by
        unfold fromB at hfm
        simp only [Bool.and_eq_true, beq_iff_eq] at hfm
        exact hfm.1.1
      have hM : refuseS h.seats[j] m.epoch = { resetS h.seats[j] 0 0 with refuses := h.seats[j].refuses ++ [m.epoch] } := by unfold refuseS; rw [if_pos h4]
      rw [hM]
      have q4 : (h.seats[j].state == 4) = true := by simpa using h4
      clear hM h4 hfr hfm hback0 HS0
      go_enter Try.func58, Try.ntmps58
      go_upto_region 1 with fail
      generalize w.alloc (.cells #[.int .i64 m.kind, .int .i64 m.frm, .int .i64 m.dst, .string m.page, .int .i64 m.epoch, .int .i64 m.index, .int .i64 m.count, .string m.data] 39) = w1 at *
      clear hs0
      obtain ⟨b0, b1, b2, b3, b4, b5, b6, b7⟩ := RX0.cells
      go_wp2_with fail
      refine HFR.out.mono ?_
      rintro e w2 ⟨rfl, rfl⟩
      go_wp2_with fail
      refine HFM.out.mono ?_
      rintro e w2 ⟨rfl, hc2⟩
      have hv2 := hc2.cell hv
      have RX2 := RX0.still hc2
      obtain ⟨G2, HS2, -, hback2⟩ := RX2.seat hv2 hj
      obtain ⟨v5, v6, v7, s0, s1, s2, s3, -⟩ := seatCells HS2
      have HBK2 := Lib.hid (fun y w'' (hp : SeatPost w2 g (off + j * 8) y G2 w'') => hback2 y w'' hp)
      clear hback2 RX0 hv RX2 b0 b1 b2 b3 b4 b5 b6 b7 HFM HFR hc2
      go_wp2_with fail
      refine (reset_any w2 g (off + j * 8) h.seats[j] G2 0 0 HS2).mono ?_
      rintro e w3 ⟨rfl, hp3⟩
      obtain ⟨RX, hv⟩ := HBK2.out _ _ hp3
      clear hp3 HS2 HBK2 s0 s1 s2 s3 q4 hv2
      have hsj : (h.seats.set j (resetS h.seats[j] 0 0))[j]'(by simpa using hj) = resetS h.seats[j] 0 0 := by simp
      have hss : ∀ y : Seat, (h.seats.set j (resetS h.seats[j] 0 0)).set j y = h.seats.set j y := fun y => List.set_set ..
      have HSS := Lib.hid hss
      clear hss
      have hj' : j < (h.seats.set j (resetS h.seats[j] 0 0)).length := by simpa using hj
      have HRF2 : Hid ((resetS h.seats[j] 0 0).refuses.length < 1000000000) := HRF
      go_upto_region 7 with fail

      have RXd := RX.still ((Chg.refl _ w3).drewR)
      have hvd := (Chg.refl (fun _ => False) w3).drewR.cell hv
      obtain ⟨G7, HS7, hnb7, hback7⟩ := RXd.seat hvd hj'
      have hrl : ((h.seats.set j (resetS h.seats[j] 0 0))[j]'hj').refuses.length < 1000000000 := (by rw [hsj]; exact HRF2.out)
      have HSJ := Lib.hid hsj
      clear hsj
      generalize hy7 : ((h.seats.set j (resetS h.seats[j] 0 0))[j]'hj') = y7 at *
      have HY7 := Lib.hid hy7
      clear hy7
      obtain ⟨p7, k7, xs7, Fs7, Fr7, d7, hopen7, -, haft7, hfin7⟩ := HS7.fieldAppending seatR_refuses (by show 0 < 8; decide)
      obtain ⟨b0, b1, b2, b3, b4, b5, b6, b7⟩ := RXd.cells
      have HEI := Lib.hid elem_int
      have HBX := Lib.hid RXd.box
      have HNO : Hid (¬ (Value.slice p7 y7.refuses.length k7).ownBlock = some w.heap.size) := Lib.hid (fun e => hnb7 _ (HS7.ownIn seatR_refuses (by show 0 < 8; decide) d7 _ e) rfl)
      have HRL := Lib.hid hrl
      have HOP7 := Lib.hid hopen7
      have HAFT7 := Lib.hid haft7
      have HFIN7 := Lib.hid hfin7
      have HBK7 := Lib.hid (fun y w'' (hp : SeatPost w3.drew g (off + j * 8) y G7 w'') => hback7 y w'' hp)
      clear hopen7 haft7 hfin7 hback7 hnb7 HS7 RXd RX hvd hv hrl b0 b1 b2 b3 b5 b6 b7
      refine wp_region_held_split 11 (fun w' => w'.cell? ⟨g, off + j * 8 + 7, none⟩ = some (.slice p7 y7.refuses.length k7) ∧ w'.cell? ⟨w.heap.size, 4, none⟩ = some (.int .i64 m.epoch)) (by kernel_rfl) (by kernel_rfl) ?_ (fun hHeld => ?_)
      · (first | exact ⟨d7, b4⟩ | exact ⟨q8, cell_of_block (i := 4) m8 rfl⟩ | exact ⟨hchA7.cell d7, hchA7.cell b4⟩)
      simp only [List.take_succ_cons, List.take_zero]
      generalize w3.drew = wD at *
      have hrow7 := HOP7.out.row.alloc (.cells #[.int .i64 m.epoch] 3)
      have hchA7 := Chg.alloc (fun _ => False) wD (.cells #[.int .i64 m.epoch] 3)
      refine wpAnyH_take (i := 0) (v := ?_) rfl (by kernel_rfl) (by kernel_rfl) (by kernel_rfl) (fun _ _ _ h => h) (Or.inl ⟨by rfl, ?_⟩) (by assumption) ?_
      rotate_left
      · (intro wq hSw; (try dsimp only at hSw); go_simp; (try with_reducible rfl))
      simp only [Act.put, List.getElem_toArray, List.getElem_cons_zero, List.getElem_cons_succ, List.setIfInBounds_toArray, List.set_cons_zero, List.set_cons_succ]
      refine wpAnyH_take (i := 1) (v := ?_) rfl (by kernel_rfl) (by kernel_rfl) (by kernel_rfl) (fun _ _ _ h => h) (Or.inl ⟨by rfl, ?_⟩) (by assumption) ?_
      rotate_left
      · (intro wq hSw; (try dsimp only at hSw); go_simp; (try with_reducible rfl))
      simp only [Act.put, List.getElem_toArray, List.getElem_cons_zero, List.getElem_cons_succ, List.setIfInBounds_toArray, List.set_cons_zero, List.set_cons_succ]
      refine wpAnyH_take (i := 2) (v := ?_) rfl (by kernel_rfl) (by kernel_rfl) (by kernel_rfl) (fun _ _ _ h => h) (Or.inl ⟨by rfl, ?_⟩) (by assumption) ?_
      rotate_left
      · (intro wq hSw; (try dsimp only at hSw); go_simp; (try with_reducible rfl))
      simp only [Act.put, List.getElem_toArray, List.getElem_cons_zero, List.getElem_cons_succ, List.setIfInBounds_toArray, List.set_cons_zero, List.set_cons_succ]
      refine wpAnyH_take (i := 3) (v := ?_) rfl (by kernel_rfl) (by kernel_rfl) (by kernel_rfl) (fun _ _ _ h => h) (Or.inl ⟨by rfl, ?_⟩) (by assumption) ?_
      rotate_left
      · (intro wq hSw; (try dsimp only at hSw); go_simp; (try with_reducible rfl))
      simp only [Act.put, List.getElem_toArray, List.getElem_cons_zero, List.getElem_cons_succ, List.setIfInBounds_toArray, List.set_cons_zero, List.set_cons_succ]
      refine wpAnyH_take (i := 4) (v := ?_) rfl (by kernel_rfl) (by kernel_rfl) (by kernel_rfl) (fun _ _ _ h => h) (Or.inl ⟨by rfl, ?_⟩) (by assumption) ?_
      rotate_left
      · (intro wq hSw; (try dsimp only at hSw); go_simp; (try with_reducible rfl))
      simp only [Act.put, List.getElem_toArray, List.getElem_cons_zero, List.getElem_cons_succ, List.setIfInBounds_toArray, List.set_cons_zero, List.set_cons_succ]
      refine wpAnyH_take (i := 5) (v := ?_) rfl (by kernel_rfl) (by kernel_rfl) (by kernel_rfl) (fun _ _ _ h => h) (Or.inl ⟨by rfl, ?_⟩) (by assumption) ?_
      rotate_left
      · (intro wq hSw; (try dsimp only at hSw); go_simp; (try with_reducible rfl))
      simp only [Act.put, List.getElem_toArray, List.getElem_cons_zero, List.getElem_cons_succ, List.setIfInBounds_toArray, List.set_cons_zero, List.set_cons_succ]
      refine wpAnyH_take (i := 6) (v := ?_) rfl (by kernel_rfl) (by kernel_rfl) (by kernel_rfl) (fun _ _ _ h => h) (Or.inl ⟨by rfl, ?_⟩) (by assumption) ?_
      rotate_left
      · (intro wq hSw; (try dsimp only at hSw); go_simp; (try with_reducible rfl))
      simp only [Act.put, List.getElem_toArray, List.getElem_cons_zero, List.getElem_cons_succ, List.setIfInBounds_toArray, List.set_cons_zero, List.set_cons_succ]
      refine wpAnyH_ready (rs := [7]) (by kernel_rfl) (by simp) ?_
      refine AllReadyH.cons (by simp only [List.getElem?_toArray, List.getElem?_cons_succ, List.getElem?_cons_zero]; rfl) (fun K hK => ?_) AllReadyH.nil
      go_simp
      refine hK.out _ _ ?_ (fun hHeld => ?_)
      · (first | exact ⟨d7, b4⟩ | exact ⟨q8, cell_of_block (i := 4) m8 rfl⟩ | exact ⟨hchA7.cell d7, hchA7.cell b4⟩)
      clear hK K
      (try simp only [Act.put, List.getElem_toArray, List.getElem_cons_zero, List.getElem_cons_succ, List.setIfInBounds_toArray, List.set_cons_zero, List.set_cons_succ])
      refine wpAnyH_ready (rs := [8]) (by kernel_rfl) (by simp) ?_
      refine AllReadyH.cons (by simp only [List.getElem?_toArray, List.getElem?_cons_succ, List.getElem?_cons_zero]; rfl) (fun K hK => ?_) AllReadyH.nil
      (refine step_append_elem (by rfl) (.tmp 44) (.tmp 47) 65 (by rfl) 3 1 8 Try.underlying65 HEI.out (by decide) _ y7.refuses.length xs7.flatten (by rfl) hrow7 [.int .i64 m.epoch] rfl wD.heap.size 3 (0, 0) (by rfl) (alloc_block wD _) (by simp [Value.oneCell']) (by have := HRL.out; unfold maxLen; omega) (by have := HRL.out; omega) ?_; intro a8 n8 c8 w8 hrow8 hchg8 hold8; obtain ⟨q8, z8⟩ := HAFT7.out _ _ hchA7 hchg8; have m8 := hchg8.keep (hchA7.keep HBX.out (fun x => x)) HNO.out)
      refine hK.out _ _ ?_ (fun hHeld => ?_)
      · (first | exact ⟨d7, b4⟩ | exact ⟨q8, cell_of_block (i := 4) m8 rfl⟩ | exact ⟨hchA7.cell d7, hchA7.cell b4⟩)
      clear hK K
      (try simp only [Act.put, List.getElem_toArray, List.getElem_cons_zero, List.getElem_cons_succ, List.setIfInBounds_toArray, List.set_cons_zero, List.set_cons_succ])
      refine wpAnyH_take (i := 9) (v := ?_) rfl (by kernel_rfl) (by kernel_rfl) (by kernel_rfl) (fun _ _ _ h => h) (Or.inl ⟨by rfl, ?_⟩) (by assumption) ?_
      rotate_left
      · (intro wq hSw; (try dsimp only at hSw); go_simp; (try with_reducible rfl))
      simp only [Act.put, List.getElem_toArray, List.getElem_cons_zero, List.getElem_cons_succ, List.setIfInBounds_toArray, List.set_cons_zero, List.set_cons_succ]
      refine wpAnyH_take (i := 10) (v := ?_) rfl (by kernel_rfl) (by kernel_rfl) (by kernel_rfl) (fun _ _ _ h => h) (Or.inl ⟨by rfl, ?_⟩) (by assumption) ?_
      rotate_left
      · (intro wq hSw; (try dsimp only at hSw); go_simp; (try with_reducible rfl))
      simp only [Act.put, List.getElem_toArray, List.getElem_cons_zero, List.getElem_cons_succ, List.setIfInBounds_toArray, List.set_cons_zero, List.set_cons_succ]
      refine wpAnyH_done (by kernel_rfl) ?_ _
      change wpList _ _ _ _ _ _
      simp only [List.drop_succ_cons, List.drop_zero]
      have hp8 := HFIN7.out _ _ [.int .i64 m.epoch] m.epoch [] _ hchA7 ⟨rfl, rfl⟩ (by simp) (by simp) hrow8 hchg8 hold8
      obtain ⟨RX8, hv8⟩ := HBK7.out _ _ hp8
      obtain ⟨b0, b1, b2, b3, b4, b5, b6, b7⟩ := RX8.cells
      have HX8 := Lib.hid RX8
      clear hp8 hrow8 hchg8 hold8 hrow7 hchA7 RX8 hv8 m8
      go_wp2_with fail
      refine (HX8.out.answer 6 HOL.out).mono ?_
      rintro e w9 ⟨rfl, RX9⟩
      go_wp2_with fail
      go_end0
      have h9 := RX9.post
      rw [HSS.out] at h9
      rw [HSJ.out] at h9
      exact ⟨rfl, h9⟩
end Go.Proofs.Ytkoopagjjmdodaa