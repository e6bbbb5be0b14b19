/-
  The machine of layer 54, receiving: cancel where there is no seat.
-/
import Derived.Test.YtkoopagjjmdodaaMrf
namespace Go.Proofs.Ytkoopagjjmdodaa
open Go.RowKit
set_option linter.unusedVariables false
set_option linter.unusedSimpArgs false

theorem findS_snoc {page : ByteArray} {s : Seat} : ∀ {l : List Seat} {k : Nat}, findS page l k = none → s.page = page → findS page (l ++ [s]) k = some (k + l.length)
  | [], k, _, hs => by simp [findS, hs]
  | x :: l, k, h, hs => by
    rw [findS] at h
    rw [List.cons_append, findS]
    split at h
    · cases h
    · rename_i hc
      rw [if_neg hc, findS_snoc h hs, List.length_cons]
      congr 1
      omega
theorem blank_own (w : World) (page : ByteArray) : seatR.own w [.string page, .int .i64 0, .int .i64 0, .int .i64 0, .string ⟨#[]⟩, .slice none 0 0, .slice none 0 0, .slice none 0 0] (blankSeat page) [] :=
  ⟨_, _, _, [], [], [], rfl, row_flat.2 ⟨_, rfl, RowAt.nil _ _ _, rfl⟩, row_flat.2 ⟨_, rfl, RowAt.nil _ _ _, rfl⟩, row_flat.2 ⟨_, rfl, RowAt.nil _ _ _, rfl⟩, rfl⟩
set_option maxHeartbeats 3200000 in
set_option maxRecDepth 100000 in
theorem cancel_none (w : World) (b o : Nat) (h : Host) (F : List Nat) (m : Msg) (H : Here hostR w b o h F) (hf : findS m.page h.seats 0 = none) (hol : Few h.out.length) (hsl : Few h.seats.length) :
    Calls Try.prog 58 #[.pointer (some ⟨b, o, none⟩), .pointer none, .agg m.cells.toArray] w fun e w' => e = .returned (.tuple #[]) ∧
      HostPost w b o { h with seats := h.seats ++ [{ blankSeat m.page with refuses := [m.epoch] }], out := h.out ++ [answerM h m 6] } F w' := by
  have RX := Rx.start H m
  have HOL := Lib.hid hol
  have HSL := Lib.hid hsl
  have HFN := Lib.hid hf
  clear H hol hsl hf
  unfold Msg.cells
  change Rx w (w.alloc (.cells #[.int .i64 m.kind, .int .i64 m.frm, .int .i64 m.dst, .string m.page, .int .i64 m.epoch, .int .i64 m.index, .int .i64 m.count, .string m.data] 39)) b o F m h at RX
  go_enter Try.func58, Try.ntmps58
  go_upto_region 1 with fail
  generalize w.alloc (.cells #[.int .i64 m.kind, .int .i64 m.frm, .int .i64 m.dst, .string m.page, .int .i64 m.epoch, .int .i64 m.index, .int .i64 m.count, .string m.data] 39) = w1 at *
  go_wp2_with fail
  refine (free_none _).mono ?_
  rintro e w2 ⟨rfl, rfl⟩
  go_upto_region 3 with fail

  have RXe := RX.still ((Chg.refl _ w1).drewR)
  obtain ⟨F3, H3, S3, hn3⟩ := RXe.ex
  obtain ⟨p3, k3, xs3, Fs3, Fr3, d3, hopen3, -, haft3, hfin3⟩ := H3.fieldAppending hostR_seats (by show 0 < 3; decide)
  obtain ⟨b0, b1, b2, b3, b4, b5, b6, b7⟩ := RXe.cells
  have HES := Lib.hid elem_seat
  have HBX3 := Lib.hid RXe.box
  have HNO3 : Hid (¬ (Value.slice p3 h.seats.length k3).ownBlock = some w.heap.size) := Lib.hid (fun e => hn3 (H3.ownIn hostR_seats (by show 0 < 3; decide) d3 _ e))
  have HNX3 : Hid (∀ h2 w2, HostPost w1.drew b o h2 F3 w2 → Rx w w2 b o F m h2) := Lib.hid (fun h2 w2 hp => Rx.step RXe.low RXe.box S3 hn3 hp)
  have HOP3 := Lib.hid hopen3
  have HAFT3 := Lib.hid haft3
  have HFIN3 := Lib.hid hfin3
  clear hopen3 haft3 hfin3 hn3 H3 S3 RXe RX b0 b1 b2 b4 b5 b6 b7
  refine wp_region_held_split 12 (fun w' => w'.cell? ⟨b, o + 1, none⟩ = some (.slice p3 h.seats.length k3) ∧ w'.cell? ⟨w.heap.size, 3, none⟩ = some (.string m.page)) (by kernel_rfl) (by kernel_rfl) ?_ (fun hHeld => ?_)
  · (first | exact ⟨d3, b3⟩ | exact ⟨q4, cell_of_block (i := 3) m4 rfl⟩ | exact ⟨hchA3.cell d3, hchA3.cell b3⟩)
  simp only [List.take_succ_cons, List.take_zero]
  generalize w1.drew = wE at *
  have hrow3 := HOP3.out.row.alloc (.cells #[.string m.page, .int .i64 0, .int .i64 0, .int .i64 0, .string ⟨#[]⟩, .slice none 0 0, .slice none 0 0, .slice none 0 0] 67)
  have hchA3 := Chg.alloc (fun _ => False) wE (.cells #[.string m.page, .int .i64 0, .int .i64 0, .int .i64 0, .string ⟨#[]⟩, .slice none 0 0, .slice none 0 0, .slice none 0 0] 67)
  refine wpAnyH_take (i := 0) (v := ?_) rfl (by kernel_rfl) (by kernel_rfl) (by kernel_rfl) (fun _ _ _ h => h) (Or.inl ⟨by rfl, ?_⟩) (by assumption) ?_
  rotate_left
  · (intro wq hSw; (try dsimp only at hSw); go_simp; (try with_reducible rfl))
  simp only [Act.put, List.getElem_toArray, List.getElem_cons_zero, List.getElem_cons_succ, List.setIfInBounds_toArray, List.set_cons_zero, List.set_cons_succ]
  refine wpAnyH_take (i := 1) (v := ?_) rfl (by kernel_rfl) (by kernel_rfl) (by kernel_rfl) (fun _ _ _ h => h) (Or.inl ⟨by rfl, ?_⟩) (by assumption) ?_
  rotate_left
  · (intro wq hSw; (try dsimp only at hSw); go_simp; (try with_reducible rfl))
  simp only [Act.put, List.getElem_toArray, List.getElem_cons_zero, List.getElem_cons_succ, List.setIfInBounds_toArray, List.set_cons_zero, List.set_cons_succ]
  refine wpAnyH_take (i := 2) (v := ?_) rfl (by kernel_rfl) (by kernel_rfl) (by kernel_rfl) (fun _ _ _ h => h) (Or.inl ⟨by rfl, ?_⟩) (by assumption) ?_
  rotate_left
  · (intro wq hSw; (try dsimp only at hSw); go_simp; (try with_reducible rfl))
  simp only [Act.put, List.getElem_toArray, List.getElem_cons_zero, List.getElem_cons_succ, List.setIfInBounds_toArray, List.set_cons_zero, List.set_cons_succ]
  refine wpAnyH_take (i := 3) (v := ?_) rfl (by kernel_rfl) (by kernel_rfl) (by kernel_rfl) (fun _ _ _ h => h) (Or.inl ⟨by rfl, ?_⟩) (by assumption) ?_
  rotate_left
  · (intro wq hSw; (try dsimp only at hSw); go_simp; (try with_reducible rfl))
  simp only [Act.put, List.getElem_toArray, List.getElem_cons_zero, List.getElem_cons_succ, List.setIfInBounds_toArray, List.set_cons_zero, List.set_cons_succ]
  refine wpAnyH_take (i := 4) (v := ?_) rfl (by kernel_rfl) (by kernel_rfl) (by kernel_rfl) (fun _ _ _ h => h) (Or.inl ⟨by rfl, ?_⟩) (by assumption) ?_
  rotate_left
  · (intro wq hSw; (try dsimp only at hSw); go_simp; (try with_reducible rfl))
  simp only [Act.put, List.getElem_toArray, List.getElem_cons_zero, List.getElem_cons_succ, List.setIfInBounds_toArray, List.set_cons_zero, List.set_cons_succ]
  refine wpAnyH_take (i := 5) (v := ?_) rfl (by kernel_rfl) (by kernel_rfl) (by kernel_rfl) (fun _ _ _ h => h) (Or.inl ⟨by rfl, ?_⟩) (by assumption) ?_
  rotate_left
  · (intro wq hSw; (try dsimp only at hSw); go_simp; (try with_reducible rfl))
  simp only [Act.put, List.getElem_toArray, List.getElem_cons_zero, List.getElem_cons_succ, List.setIfInBounds_toArray, List.set_cons_zero, List.set_cons_succ]
  refine wpAnyH_take (i := 6) (v := ?_) rfl (by kernel_rfl) (by kernel_rfl) (by kernel_rfl) (fun _ _ _ h => h) (Or.inl ⟨by rfl, ?_⟩) (by assumption) ?_
  rotate_left
  · (intro wq hSw; (try dsimp only at hSw); go_simp; (try with_reducible rfl))
  simp only [Act.put, List.getElem_toArray, List.getElem_cons_zero, List.getElem_cons_succ, List.setIfInBounds_toArray, List.set_cons_zero, List.set_cons_succ]
  refine wpAnyH_take (i := 7) (v := ?_) rfl (by kernel_rfl) (by kernel_rfl) (by kernel_rfl) (fun _ _ _ h => h) (Or.inl ⟨by rfl, ?_⟩) (by assumption) ?_
  rotate_left
  · (intro wq hSw; (try dsimp only at hSw); go_simp; (try with_reducible rfl))
  simp only [Act.put, List.getElem_toArray, List.getElem_cons_zero, List.getElem_cons_succ, List.setIfInBounds_toArray, List.set_cons_zero, List.set_cons_succ]
  refine wpAnyH_ready (rs := [8]) (by kernel_rfl) (by simp) ?_
  refine AllReadyH.cons (by simp only [List.getElem?_toArray, List.getElem?_cons_succ, List.getElem?_cons_zero]; rfl) (fun K hK => ?_) AllReadyH.nil
  go_simp
  refine hK.out _ _ ?_ (fun hHeld => ?_)
  · (first | exact ⟨d3, b3⟩ | exact ⟨q4, cell_of_block (i := 3) m4 rfl⟩ | exact ⟨hchA3.cell d3, hchA3.cell b3⟩)
  clear hK K
  (try simp only [Act.put, List.getElem_toArray, List.getElem_cons_zero, List.getElem_cons_succ, List.setIfInBounds_toArray, List.set_cons_zero, List.set_cons_succ])
  refine wpAnyH_ready (rs := [9]) (by kernel_rfl) (by simp) ?_
  refine AllReadyH.cons (by simp only [List.getElem?_toArray, List.getElem?_cons_succ, List.getElem?_cons_zero]; rfl) (fun K hK => ?_) AllReadyH.nil
  (refine step_append_elem (by rfl) (.tmp 21) (.tmp 25) 23 (by rfl) 67 8 128 Try.underlying23 HES.out (by decide) _ h.seats.length xs3.flatten (by rfl) hrow3 [.string m.page, .int .i64 0, .int .i64 0, .int .i64 0, .string ⟨#[]⟩, .slice none 0 0, .slice none 0 0, .slice none 0 0] rfl wE.heap.size 67 (0, 0) (by rfl) (alloc_block wE _) (by simp [Value.oneCell']) (by have := HSL.out.lt; unfold maxLen; omega) (by have := HSL.out.lt; omega) ?_; intro a4 n4 c4 w4 hrow4 hchg4 hold4; obtain ⟨q4, z4⟩ := HAFT3.out _ _ hchA3 hchg4; have m4 := hchg4.keep (hchA3.keep HBX3.out (fun x => x)) HNO3.out)
  refine hK.out _ _ ?_ (fun hHeld => ?_)
  · (first | exact ⟨d3, b3⟩ | exact ⟨q4, cell_of_block (i := 3) m4 rfl⟩ | exact ⟨hchA3.cell d3, hchA3.cell b3⟩)
  clear hK K
  (try simp only [Act.put, List.getElem_toArray, List.getElem_cons_zero, List.getElem_cons_succ, List.setIfInBounds_toArray, List.set_cons_zero, List.set_cons_succ])
  refine wpAnyH_take (i := 10) (v := ?_) rfl (by kernel_rfl) (by kernel_rfl) (by kernel_rfl) (fun _ _ _ h => h) (Or.inl ⟨by rfl, ?_⟩) (by assumption) ?_
  rotate_left
  · (intro wq hSw; (try dsimp only at hSw); go_simp; (try with_reducible rfl))
  simp only [Act.put, List.getElem_toArray, List.getElem_cons_zero, List.getElem_cons_succ, List.setIfInBounds_toArray, List.set_cons_zero, List.set_cons_succ]
  refine wpAnyH_take (i := 11) (v := ?_) rfl (by kernel_rfl) (by kernel_rfl) (by kernel_rfl) (fun _ _ _ h => h) (Or.inl ⟨by rfl, ?_⟩) (by assumption) ?_
  rotate_left
  · (intro wq hSw; (try dsimp only at hSw); go_simp; (try with_reducible rfl))
  simp only [Act.put, List.getElem_toArray, List.getElem_cons_zero, List.getElem_cons_succ, List.setIfInBounds_toArray, List.set_cons_zero, List.set_cons_succ]
  refine wpAnyH_done (by kernel_rfl) ?_ _
  change wpList _ _ _ _ _ _
  simp only [List.drop_succ_cons, List.drop_zero]
  have hp4 := HFIN3.out _ _ [.string m.page, .int .i64 0, .int .i64 0, .int .i64 0, .string ⟨#[]⟩, .slice none 0 0, .slice none 0 0, .slice none 0 0] (blankSeat m.page) [] _ hchA3 (blank_own _ m.page) (by simp) (by simp) hrow4 hchg4 hold4
  have RX4 := HNX3.out _ _ hp4
  obtain ⟨b0, b1, b2, b3, b4, b5, b6, b7⟩ := RX4.cells
  obtain ⟨g, off, cp, hv4⟩ := RX4.row (by show 0 < (h.seats ++ [blankSeat m.page]).length; simp)
  have HX4 := Lib.hid RX4
  have HV4 := Lib.hid hv4
  clear hp4 hrow4 hchg4 hold4 hrow3 hchA3 RX4 m4 hv4
  go_wp2_with fail
  refine (HX4.out.find m.page HV4.out).mono ?_
  rintro e w5 ⟨rfl, hc5⟩
  rw [findS_snoc HFN.out (show (blankSeat m.page).page = m.page from rfl), seatPtr_some]
  have RX5 := HX4.out.still hc5
  have hv5 := hc5.cell HV4.out
  clear b0 b1 b2 b3 b4 b5 b6 b7 q4 z4 hc5 HX4 HV4
  rw [Nat.zero_add]
  have hj : h.seats.length < ({ h with seats := h.seats ++ [blankSeat m.page] } : Host).seats.length := by show _ < (h.seats ++ [blankSeat m.page]).length; simp
  have hsj : (h.seats ++ [blankSeat m.page])[h.seats.length]'(by simp) = blankSeat m.page := by simp
  obtain ⟨G5, HS5, -, -⟩ := RX5.seat hv5 hj
  have hst : ((h.seats ++ [blankSeat m.page])[h.seats.length]'(by simp)).state = 0 := by rw [hsj]; rfl
  obtain ⟨v5, v6, v7, s0, s1, s2, s3, -⟩ := seatCells HS5
  change w5.cell? ⟨g, off + h.seats.length * 8 + 1, none⟩ = some (.int .i64 ((h.seats ++ [blankSeat m.page])[h.seats.length]'(by simp)).state) at s1
  rw [hst] at s1
  have HSJ := Lib.hid hsj
  have HSS : Hid (∀ y : Seat, (h.seats ++ [blankSeat m.page]).set h.seats.length y = h.seats ++ [y]) := Lib.hid (fun y => by simp)
  have hrl0 : ((h.seats ++ [blankSeat m.page])[h.seats.length]'(by simp)).refuses.length < 1000000000 := by rw [hsj]; show 0 < 1000000000; omega
  have HRF := Lib.hid hrl0
  clear hst hsj HS5 s0 s2 s3 hrl0
  obtain ⟨j, HJ⟩ : ∃ j, Hid (h.seats.length = j) := ⟨_, rfl⟩
  go_upto_region 7 with fail
  clear s1
  have RX := RX5
  have hv := hv5
  clear RX5 hv5
  have RXd := RX.still ((Chg.refl _ w5).drewR)
  have hvd := (Chg.refl (fun _ => False) w5).drewR.cell hv
  obtain ⟨G7, HS7, hnb7, hback7⟩ := RXd.seat hvd hj
  have hrl : ((h.seats ++ [blankSeat m.page])[h.seats.length]'(by simp)).refuses.length < 1000000000 := HRF.out
  generalize hy7 : ((h.seats ++ [blankSeat m.page])[h.seats.length]'(by simp)) = y7 at *
  have HY7 := Lib.hid hy7
  clear hy7
  obtain ⟨p7, k7, xs7, Fs7, Fr7, d7, hopen7, -, haft7, hfin7⟩ := HS7.fieldAppending seatR_refuses (by show 0 < 8; decide)
  obtain ⟨b0, b1, b2, b3, b4, b5, b6, b7⟩ := RXd.cells
  have HEI := Lib.hid elem_int
  have HBX := Lib.hid RXd.box
  have HNO : Hid (¬ (Value.slice p7 y7.refuses.length k7).ownBlock = some w.heap.size) := Lib.hid (fun e => hnb7 _ (HS7.ownIn seatR_refuses (by show 0 < 8; decide) d7 _ e) rfl)
  have HRL := Lib.hid hrl
  have HOP7 := Lib.hid hopen7
  have HAFT7 := Lib.hid haft7
  have HFIN7 := Lib.hid hfin7
  have HBK7 := Lib.hid (fun y w'' (hp : SeatPost w5.drew g (off + h.seats.length * 8) y G7 w'') => hback7 y w'' hp)
  clear hopen7 haft7 hfin7 hback7 hnb7 HS7 RXd RX hvd hv hrl b0 b1 b2 b3 b5 b6 b7
  refine wp_region_held_split 11 (fun w' => w'.cell? ⟨g, off + h.seats.length * 8 + 7, none⟩ = some (.slice p7 y7.refuses.length k7) ∧ w'.cell? ⟨w.heap.size, 4, none⟩ = some (.int .i64 m.epoch)) (by kernel_rfl) (by kernel_rfl) ?_ (fun hHeld => ?_)
  · (first | exact ⟨d7, b4⟩ | exact ⟨q8, cell_of_block (i := 4) m8 rfl⟩ | exact ⟨hchA7.cell d7, hchA7.cell b4⟩)
  simp only [List.take_succ_cons, List.take_zero]
  generalize w5.drew = wD at *
  have hrow7 := HOP7.out.row.alloc (.cells #[.int .i64 m.epoch] 3)
  have hchA7 := Chg.alloc (fun _ => False) wD (.cells #[.int .i64 m.epoch] 3)
  refine wpAnyH_take (i := 0) (v := ?_) rfl (by kernel_rfl) (by kernel_rfl) (by kernel_rfl) (fun _ _ _ h => h) (Or.inl ⟨by rfl, ?_⟩) (by assumption) ?_
  rotate_left
  · (intro wq hSw; (try dsimp only at hSw); go_simp; (try with_reducible rfl))
  simp only [Act.put, List.getElem_toArray, List.getElem_cons_zero, List.getElem_cons_succ, List.setIfInBounds_toArray, List.set_cons_zero, List.set_cons_succ]
  refine wpAnyH_take (i := 1) (v := ?_) rfl (by kernel_rfl) (by kernel_rfl) (by kernel_rfl) (fun _ _ _ h => h) (Or.inl ⟨by rfl, ?_⟩) (by assumption) ?_
  rotate_left
  · (intro wq hSw; (try dsimp only at hSw); go_simp; (try with_reducible rfl))
  simp only [Act.put, List.getElem_toArray, List.getElem_cons_zero, List.getElem_cons_succ, List.setIfInBounds_toArray, List.set_cons_zero, List.set_cons_succ]
  refine wpAnyH_take (i := 2) (v := ?_) rfl (by kernel_rfl) (by kernel_rfl) (by kernel_rfl) (fun _ _ _ h => h) (Or.inl ⟨by rfl, ?_⟩) (by assumption) ?_
  rotate_left
  · (intro wq hSw; (try dsimp only at hSw); go_simp; (try with_reducible rfl))
  simp only [Act.put, List.getElem_toArray, List.getElem_cons_zero, List.getElem_cons_succ, List.setIfInBounds_toArray, List.set_cons_zero, List.set_cons_succ]
  refine wpAnyH_take (i := 3) (v := ?_) rfl (by kernel_rfl) (by kernel_rfl) (by kernel_rfl) (fun _ _ _ h => h) (Or.inl ⟨by rfl, ?_⟩) (by assumption) ?_
  rotate_left
  · (intro wq hSw; (try dsimp only at hSw); go_simp; (try with_reducible rfl))
  simp only [Act.put, List.getElem_toArray, List.getElem_cons_zero, List.getElem_cons_succ, List.setIfInBounds_toArray, List.set_cons_zero, List.set_cons_succ]
  refine wpAnyH_take (i := 4) (v := ?_) rfl (by kernel_rfl) (by kernel_rfl) (by kernel_rfl) (fun _ _ _ h => h) (Or.inl ⟨by rfl, ?_⟩) (by assumption) ?_
  rotate_left
  · (intro wq hSw; (try dsimp only at hSw); go_simp; (try with_reducible rfl))
  simp only [Act.put, List.getElem_toArray, List.getElem_cons_zero, List.getElem_cons_succ, List.setIfInBounds_toArray, List.set_cons_zero, List.set_cons_succ]
  refine wpAnyH_take (i := 5) (v := ?_) rfl (by kernel_rfl) (by kernel_rfl) (by kernel_rfl) (fun _ _ _ h => h) (Or.inl ⟨by rfl, ?_⟩) (by assumption) ?_
  rotate_left
  · (intro wq hSw; (try dsimp only at hSw); go_simp; (try with_reducible rfl))
  simp only [Act.put, List.getElem_toArray, List.getElem_cons_zero, List.getElem_cons_succ, List.setIfInBounds_toArray, List.set_cons_zero, List.set_cons_succ]
  refine wpAnyH_take (i := 6) (v := ?_) rfl (by kernel_rfl) (by kernel_rfl) (by kernel_rfl) (fun _ _ _ h => h) (Or.inl ⟨by rfl, ?_⟩) (by assumption) ?_
  rotate_left
  · (intro wq hSw; (try dsimp only at hSw); go_simp; (try with_reducible rfl))
  simp only [Act.put, List.getElem_toArray, List.getElem_cons_zero, List.getElem_cons_succ, List.setIfInBounds_toArray, List.set_cons_zero, List.set_cons_succ]
  refine wpAnyH_ready (rs := [7]) (by kernel_rfl) (by simp) ?_
  refine AllReadyH.cons (by simp only [List.getElem?_toArray, List.getElem?_cons_succ, List.getElem?_cons_zero]; rfl) (fun K hK => ?_) AllReadyH.nil
  go_simp
  refine hK.out _ _ ?_ (fun hHeld => ?_)
  · (first | exact ⟨d7, b4⟩ | exact ⟨q8, cell_of_block (i := 4) m8 rfl⟩ | exact ⟨hchA7.cell d7, hchA7.cell b4⟩)
  clear hK K
  (try simp only [Act.put, List.getElem_toArray, List.getElem_cons_zero, List.getElem_cons_succ, List.setIfInBounds_toArray, List.set_cons_zero, List.set_cons_succ])
  refine wpAnyH_ready (rs := [8]) (by kernel_rfl) (by simp) ?_
  refine AllReadyH.cons (by simp only [List.getElem?_toArray, List.getElem?_cons_succ, List.getElem?_cons_zero]; rfl) (fun K hK => ?_) AllReadyH.nil
  (refine step_append_elem (by rfl) (.tmp 44) (.tmp 47) 65 (by rfl) 3 1 8 Try.underlying65 HEI.out (by decide) _ y7.refuses.length xs7.flatten (by rfl) hrow7 [.int .i64 m.epoch] rfl wD.heap.size 3 (0, 0) (by rfl) (alloc_block wD _) (by simp [Value.oneCell']) (by have := HRL.out; unfold maxLen; omega) (by have := HRL.out; omega) ?_; intro a8 n8 c8 w8 hrow8 hchg8 hold8; obtain ⟨q8, z8⟩ := HAFT7.out _ _ hchA7 hchg8; have m8 := hchg8.keep (hchA7.keep HBX.out (fun x => x)) HNO.out)
  refine hK.out _ _ ?_ (fun hHeld => ?_)
  · (first | exact ⟨d7, b4⟩ | exact ⟨q8, cell_of_block (i := 4) m8 rfl⟩ | exact ⟨hchA7.cell d7, hchA7.cell b4⟩)
  clear hK K
  (try simp only [Act.put, List.getElem_toArray, List.getElem_cons_zero, List.getElem_cons_succ, List.setIfInBounds_toArray, List.set_cons_zero, List.set_cons_succ])
  refine wpAnyH_take (i := 9) (v := ?_) rfl (by kernel_rfl) (by kernel_rfl) (by kernel_rfl) (fun _ _ _ h => h) (Or.inl ⟨by rfl, ?_⟩) (by assumption) ?_
  rotate_left
  · (intro wq hSw; (try dsimp only at hSw); go_simp; (try with_reducible rfl))
  simp only [Act.put, List.getElem_toArray, List.getElem_cons_zero, List.getElem_cons_succ, List.setIfInBounds_toArray, List.set_cons_zero, List.set_cons_succ]
  refine wpAnyH_take (i := 10) (v := ?_) rfl (by kernel_rfl) (by kernel_rfl) (by kernel_rfl) (fun _ _ _ h => h) (Or.inl ⟨by rfl, ?_⟩) (by assumption) ?_
  rotate_left
  · (intro wq hSw; (try dsimp only at hSw); go_simp; (try with_reducible rfl))
  simp only [Act.put, List.getElem_toArray, List.getElem_cons_zero, List.getElem_cons_succ, List.setIfInBounds_toArray, List.set_cons_zero, List.set_cons_succ]
  refine wpAnyH_done (by kernel_rfl) ?_ _
  change wpList _ _ _ _ _ _
  simp only [List.drop_succ_cons, List.drop_zero]
  have hp8 := HFIN7.out _ _ [.int .i64 m.epoch] m.epoch [] _ hchA7 ⟨rfl, rfl⟩ (by simp) (by simp) hrow8 hchg8 hold8
  obtain ⟨RX8, hv8⟩ := HBK7.out _ _ hp8
  obtain ⟨b0, b1, b2, b3, b4, b5, b6, b7⟩ := RX8.cells
  have HX8 := Lib.hid RX8
  clear hp8 hrow8 hchg8 hold8 hrow7 hchA7 RX8 hv8 m8
  go_wp2_with fail
  refine (HX8.out.answer 6 HOL.out).mono ?_
  rintro e w9 ⟨rfl, RX9⟩
  go_wp2_with fail
  go_end0
  have h9 := RX9.post
  rw [HSS.out, HSJ.out] at h9
  exact ⟨rfl, h9⟩
end Go.Proofs.Ytkoopagjjmdodaa