/-
  The machine of layer 54: Receive.
-/
import Derived.Test.YtkoopagjjmdodaaMrh
import Derived.Test.YtkoopagjjmdodaaMigo
namespace Go.Proofs.Ytkoopagjjmdodaa
open Go.RowKit
set_option linter.unusedVariables false
set_option linter.unusedSimpArgs false

def cancelM (h : Host) (m : Msg) : Host :=
  match findS m.page h.seats 0 with
  | none => { h with seats := h.seats ++ [{ blankSeat m.page with refuses := [m.epoch] }], out := h.out ++ [answerM h m 6] }
  | some j => if (freeM (h.seats.getD j (blankSeat m.page)) || fromB (h.seats.getD j (blankSeat m.page)) m) = true then { h with seats := h.seats.set j (refuseS (h.seats.getD j (blankSeat m.page)) m.epoch), out := h.out ++ [answerM h m 6] } else h
def needM (h : Host) (m : Msg) : Host :=
  match findS m.page h.seats 0 with
  | none => h
  | some j => if ((h.seats.getD j (blankSeat m.page)).state == 2 && (h.seats.getD j (blankSeat m.page)).epoch == m.epoch && (h.seats.getD j (blankSeat m.page)).peer == m.frm) = true ∧ m.index.toNat < (partsL (h.seats.getD j (blankSeat m.page)).letter).length then
      { h with out := h.out ++ [⟨2, h.id, (h.seats.getD j (blankSeat m.page)).peer, (h.seats.getD j (blankSeat m.page)).page, (h.seats.getD j (blankSeat m.page)).epoch, m.index, (partsL (h.seats.getD j (blankSeat m.page)).letter).length, (partsL (h.seats.getD j (blankSeat m.page)).letter).getD m.index.toNat ⟨#[]⟩⟩] } else h
def settledM (h : Host) (m : Msg) : Host :=
  match findS m.page h.seats 0 with
  | none => h
  | some j => { h with seats := h.seats.set j (settleM (h.seats.getD j (blankSeat m.page)) m) }
def askedM (h : Host) (m : Msg) : Int :=
  match findS m.page h.seats 0 with
  | none => 0
  | some j => knownM (h.seats.getD j (blankSeat m.page)) m.epoch
def receiveM (h : Host) (m : Msg) : Host :=
  if formedB m = false ∨ m.dst ≠ h.id then h
  else if m.kind = 1 ∨ m.kind = 2 ∨ m.kind = 5 then
    if askedM h m ≠ 0 then { h with out := h.out ++ [answerM h m (askedM h m)] }
    else if m.kind = 5 then cancelM h m else acceptM h m
  else if m.kind = 3 then needM h m else settledM h m
/-- What is asked of a machine. -/
structure HostOk (h : Host) : Prop where
  out : Few h.out.length
  seats : Few h.seats.length
  each : ∀ s ∈ h.seats, SeatOk s ∧ s.refuses.length < 1000000000 ∧ (-9223372036854775808 ≤ s.epoch ∧ s.epoch < 9223372036854775807) ∧ Few s.letter.size
theorem formed_counted {m : Msg} (h : formedB m = true) (hk : m.kind = 1 ∨ m.kind = 2) : (1 ≤ m.count ∧ m.count ≤ 20000) ∧ (0 ≤ m.index ∧ (m.kind = 2 → m.index < m.count)) ∧ m.data.size ≤ 1000 := by
  unfold formedB at h
  rw [Bool.and_eq_true] at h
  have h2 := h.2
  unfold Msg.tailB at h2
  rcases hk with hk | hk
  · rw [if_pos hk] at h2
    simp only [Msg.countedB, Bool.and_eq_true, decide_eq_true_eq, beq_iff_eq, List.isEmpty_iff] at h2
    have : m.data.size = 0 := by
      have h5 : m.data.toList.length = m.data.size := by rw [ByteArray.toList_eq]; simp
      rw [h2.2] at h5
      exact h5.symm
    exact ⟨h2.1.1, ⟨by omega, fun e => by omega⟩, by omega⟩
  · rw [if_neg (by omega), if_pos hk] at h2
    simp only [Msg.countedB, Bool.and_eq_true, decide_eq_true_eq] at h2
    exact ⟨h2.1.1.1, ⟨h2.1.1.2, fun _ => h2.1.2⟩, by omega⟩
theorem known_any (w : World) (h : Host) (m : Msg) (b o : Nat) (F : List Nat) (vs : Value) (H : Here hostR w b o h F) (hv : w.cell? ⟨b, o + 1, none⟩ = some vs) :
    Calls Try.prog 56 #[.pointer (seatPtr vs (findS m.page h.seats 0)), .int .i64 m.epoch] w fun e w' => e = .returned (.int .i64 (askedM h m)) ∧ w = w' := by
  unfold askedM
  cases hf : findS m.page h.seats 0 with
  | none => exact known_none w m.epoch
  | some j =>
    have hj : j < h.seats.length := by have := findS_lt m.page h.seats 0 j hf; omega
    obtain ⟨g, off, cap, hv2⟩ := hostRow H (by omega)
    rw [hv] at hv2
    cases hv2
    obtain ⟨G, HS, -⟩ := hostSeat H hv hj
    rw [seatPtr_some]
    simp only [getS hj]
    exact known_some w g (off + j * 8) h.seats[j] G m.epoch HS
theorem cancel_any (w : World) (h : Host) (m : Msg) (b o : Nat) (F : List Nat) (vs : Value) (H : Here hostR w b o h F) (hv : w.cell? ⟨b, o + 1, none⟩ = some vs) (hk : HostOk h) :
    Calls Try.prog 58 #[.pointer (some ⟨b, o, none⟩), .pointer (seatPtr vs (findS m.page h.seats 0)), .agg m.cells.toArray] w fun e w' => e = .returned (.tuple #[]) ∧ HostPost w b o (cancelM h m) F w' := by
  unfold cancelM
  cases hf : findS m.page h.seats 0 with
  | none => exact cancel_none w b o h F m H hf hk.out hk.seats
  | some j =>
    have hj : j < h.seats.length := by have := findS_lt m.page h.seats 0 j hf; omega
    obtain ⟨g, off, cap, hv2⟩ := hostRow H (by omega)
    rw [hv] at hv2
    cases hv2
    rw [seatPtr_some]
    simp only [getS hj]
    exact cancel_some w b o h F m g off _ _ j H hv hj hk.out (hk.each _ (List.getElem_mem hj)).2.1
theorem settle_any (w : World) (h : Host) (m : Msg) (b o : Nat) (F : List Nat) (vs : Value) (H : Here hostR w b o h F) (hv : w.cell? ⟨b, o + 1, none⟩ = some vs) (hk : HostOk h) :
    Calls Try.prog 60 #[.pointer (seatPtr vs (findS m.page h.seats 0)), .agg m.cells.toArray] w fun e w' => e = .returned (.tuple #[]) ∧ HostPost w b o (settledM h m) F w' := by
  unfold settledM
  cases hf : findS m.page h.seats 0 with
  | none => exact (settle_none w m).mono fun e w' x => ⟨x.1, hostStill H x.2⟩
  | some j =>
    have hj : j < h.seats.length := by have := findS_lt m.page h.seats 0 j hf; omega
    obtain ⟨g, off, cap, hv2⟩ := hostRow H (by omega)
    rw [hv] at hv2
    cases hv2
    obtain ⟨G, HS, -, -, hback⟩ := hostSeat H hv hj
    rw [seatPtr_some]
    simp only [getS hj]
    refine (settle_some w g (off + j * 8) h.seats[j] G m (hk.each _ (List.getElem_mem hj)).2.2.1 HS).mono ?_
    rintro e w' ⟨rfl, K', H', S'⟩
    exact ⟨rfl, (hback _ _ _ H' S').1⟩
set_option maxHeartbeats 6400000 in
set_option maxRecDepth 100000 in
theorem receive_any (w : World) (b o : Nat) (h : Host) (F : List Nat) (m : Msg) (H : Here hostR w b o h F) (h1 : m.page.size ≤ 9223372036854775807) (h2 : m.data.size ≤ 9223372036854775807) (hk : HostOk h) :
    Calls Try.prog 32 #[.pointer (some ⟨b, o, none⟩), .agg m.cells.toArray] w fun e w' => e = .returned (.tuple #[]) ∧ HostPost w b o (receiveM h m) F w' := by
  cases hfm : formedB m with
  | false =>
    have hM : receiveM h m = h := by unfold receiveM; rw [if_pos (.inl hfm)]
    rw [hM]
    exact (receive_ill w b o h F m H h1 h2 hfm).mono fun e w' x => ⟨x.1, hostStill H x.2⟩
  | true =>
    have HFF := Lib.hid (fun W => formed_any m W h1 h2)
    rw [hfm] at HFF
    have HFM := Lib.hid hfm
    have HK := Lib.hid hk
    have RX := Rx.start H m
    clear h1 h2 hfm hk H
    unfold Msg.cells at HFF ⊢
    change Rx w (w.alloc (.cells #[.int .i64 m.kind, .int .i64 m.frm, .int .i64 m.dst, .string m.page, .int .i64 m.epoch, .int .i64 m.index, .int .i64 m.count, .string m.data] 39)) b o F m h at RX
    go_enter Try.func32, Try.ntmps32
    go_upto_region 1 with fail
    generalize w.alloc (.cells #[.int .i64 m.kind, .int .i64 m.frm, .int .i64 m.dst, .string m.page, .int .i64 m.epoch, .int .i64 m.index, .int .i64 m.count, .string m.data] 39) = w1 at *
    obtain ⟨b0, b1, b2, b3, b4, b5, b6, b7⟩ := RX.cells
    obtain ⟨vs, c0, c1⟩ := RX.host
    have l0 := Later.cell c0
    have m0 := Later.cell b0
    have m1 := Later.cell b1
    have m2 := Later.cell b2
    have m3 := Later.cell b3
    have m4 := Later.cell b4
    have m5 := Later.cell b5
    have m6 := Later.cell b6
    have m7 := Later.cell b7
    by_cases hd : m.dst = h.id
    · have q1 : (m.dst != h.id) = false := by simpa using hd
      have HD := Lib.hid hd
      clear hd b0 b1 b2 b3 b4 b5 b6 b7 c0
      refine wp_region_later (by kernel_rfl) (by kernel_rfl) ?_
      repeat (go_big_quiet_step ((go_at_call 46; exact Later.call (HFF.out _))))
      refine wpQuiet_nil ?_
      rintro _ ⟨x, rfl⟩
      have RX2 := RX.still x.chg
      have c2 := x.chg.cell c1
      clear m0 m1 m2 m3 m4 m5 m6 m7 l0 RX c1 HFF
      generalize x.at_ = w2 at *
      obtain ⟨b0, b1, b2, b3, b4, b5, b6, b7⟩ := RX2.cells
      have HR2 := Lib.hid RX2
      have HC2 := Lib.hid c2
      clear RX2 c2
      go_wp2_with fail
      refine (HR2.out.find m.page HC2.out).mono ?_
      rintro e w3 ⟨rfl, hc3⟩
      have RX3 := HR2.out.still hc3
      have c3 := hc3.cell HC2.out
      obtain ⟨F3, H3, S3, hn3⟩ := RX3.ex
      have HH3 := Lib.hid H3
      have HC3 := Lib.hid c3
      have HNX : Hid (∀ h2 w4, HostPost w3 b o h2 F3 w4 → Rx w w4 b o F m h2) := Lib.hid (fun h2 w4 hp => Rx.step RX3.low RX3.box S3 hn3 hp)
      have HR3 := Lib.hid RX3
      clear b0 b1 b2 b3 b4 b5 b6 b7 hc3 H3 S3 hn3 c3
      obtain ⟨b0, b1, b2, b3, b4, b5, b6, b7⟩ := RX3.cells
      clear RX3 HR2 HC2
      have HKN := Lib.hid (known_any w3 h m b o F3 vs HH3.out HC3.out)
      have HCA := Lib.hid (cancel_any w3 h m b o F3 vs HH3.out HC3.out HK.out)
      have HSE := Lib.hid (settle_any w3 h m b o F3 vs HH3.out HC3.out HK.out)
      have HAC : Hid ((m.kind = 1 ∨ m.kind = 2) → Calls Try.prog 59 #[.pointer (some ⟨b, o, none⟩), .pointer (seatPtr vs (findS m.page h.seats 0)), .agg m.cells.toArray] w3 fun e w' => e = .returned (.tuple #[]) ∧ HostPost w3 b o (acceptM h m) F3 w') := Lib.hid (fun hq => by
        obtain ⟨p1, p2, p3⟩ := formed_counted HFM.out hq
        exact accept_any w3 b o h F3 m vs HH3.out HC3.out HK.out.out HK.out.seats (fun s hs => (HK.out.each s hs).1) p1 p2 p3)
      unfold Msg.cells at HCA HSE HAC
      generalize hpt : seatPtr vs (findS m.page h.seats 0) = pt at *
      have HPT := Lib.hid hpt
      clear hpt
      by_cases k1 : m.kind = 1 ∨ m.kind = 2 ∨ m.kind = 5
      · have hM0 : receiveM h m = if askedM h m ≠ 0 then { h with out := h.out ++ [answerM h m (askedM h m)] } else if m.kind = 5 then cancelM h m else acceptM h m := by unfold receiveM; rw [if_neg (by rw [HFM.out, HD.out]; simp), if_pos k1]
        by_cases ka : askedM h m = 0
        · have qa : (askedM h m != 0) = false := by simpa using ka
          rw [if_neg (by simpa using ka)] at hM0
          rw [ka] at HKN
          clear ka qa
          have q0 : ((0 : Int) != 0) = false := rfl
          rcases k1 with hk | hk | hk
          · rw [if_neg (by omega)] at hM0
            have HM0 := Lib.hid hM0
            have HA2 := Lib.hid (HAC.out (.inl hk))
            rw [hk] at b0
            rw [hk] at HA2
            clear hk hM0
            go_wp2_with fail
            refine HKN.out.mono ?_
            rintro e w4 ⟨rfl, rfl⟩
            go_wp2_with fail
            refine HA2.out.mono ?_
            rintro e w5 ⟨rfl, hp⟩
            have RX5 := HNX.out _ _ hp
            clear hp
            go_wp2_with fail
            go_end0
            exact ⟨rfl, by rw [HM0.out]; exact RX5.post⟩
          · rw [if_neg (by omega)] at hM0
            have HM0 := Lib.hid hM0
            have HA2 := Lib.hid (HAC.out (.inr hk))
            rw [hk] at b0
            rw [hk] at HA2
            clear hk hM0
            go_wp2_with fail
            refine HKN.out.mono ?_
            rintro e w4 ⟨rfl, rfl⟩
            go_wp2_with fail
            refine HA2.out.mono ?_
            rintro e w5 ⟨rfl, hp⟩
            have RX5 := HNX.out _ _ hp
            clear hp
            go_wp2_with fail
            go_end0
            exact ⟨rfl, by rw [HM0.out]; exact RX5.post⟩
          · rw [if_pos hk] at hM0
            have HM0 := Lib.hid hM0
            rw [hk] at b0
            rw [hk] at HCA
            clear hk hM0
            go_wp2_with fail
            refine HKN.out.mono ?_
            rintro e w4 ⟨rfl, rfl⟩
            go_wp2_with fail
            refine HCA.out.mono ?_
            rintro e w5 ⟨rfl, hp⟩
            have RX5 := HNX.out _ _ hp
            clear hp
            go_wp2_with fail
            refine bodyPost_ret (results_none rfl _ _ _) rfl ?_
            exact ⟨rfl, by rw [HM0.out]; exact RX5.post⟩
        · have qa : (askedM h m != 0) = true := by simpa using ka
          rw [if_pos ka] at hM0
          have HM0 := Lib.hid hM0
          have HAN : Hid (∀ kd, Calls Try.prog 57 #[.pointer (some ⟨b, o, none⟩), .agg m.cells.toArray, .int .i64 kd] w3 fun e w'' => e = .returned (.tuple #[]) ∧ Rx w w'' b o F m { h with out := h.out ++ [answerM h m kd] }) := Lib.hid (fun kd => HR3.out.answer kd HK.out.out)
          unfold Msg.cells at HAN
          clear hM0 ka
          generalize askedM h m = an at *
          rcases k1 with hk | hk | hk
          all_goals
            rw [hk] at b0
            rw [hk] at HAN
            clear hk
            go_wp2_with fail
            refine HKN.out.mono ?_
            rintro e w4 ⟨rfl, rfl⟩
            go_wp2_with fail
            refine (HAN.out an).mono ?_
            rintro e w5 ⟨rfl, RX5⟩
            go_wp2_with fail
            refine bodyPost_ret (results_none rfl _ _ _) rfl ?_
            exact ⟨rfl, by rw [HM0.out]; exact RX5.post⟩
      · by_cases k3 : m.kind = 3
        · have hM0 : receiveM h m = needM h m := by unfold receiveM; rw [if_neg (by rw [HFM.out, HD.out]; simp), if_neg k1, if_pos k3]
          have HM0 := Lib.hid hM0
          have hix : 0 ≤ m.index ∧ m.index ≤ 19999 := by
            have h8 := HFM.out
            unfold formedB at h8
            rw [Bool.and_eq_true] at h8
            have h9 := h8.2
            unfold Msg.tailB at h9
            rw [if_neg (by omega), if_neg (by omega), if_pos k3] at h9
            simp only [Bool.and_eq_true, decide_eq_true_eq] at h9
            exact ⟨h9.1.1.1, h9.1.1.2⟩
          have HIX := Lib.hid hix
          rw [k3] at b0
          clear k1 k3 hM0 hix HKN HCA HSE HAC
          cases hf : findS m.page h.seats 0 with
          | none =>
            have hM : needM h m = h := by unfold needM; rw [hf]
            have HM := Lib.hid hM
            have hp := HPT.out
            rw [hf] at hp
            obtain rfl : none = pt := hp
            clear hM hf
            go_wp2_with fail
            go_quiet (fail)
            go_wp2_with fail
            refine bodyPost_ret (results_none rfl _ _ _) rfl ?_
            exact ⟨rfl, by rw [HM0.out, HM.out]; exact (HR3.out.still ((Chg.refl _ w3).drewNR _)).post⟩
          | some j =>
            have hj : j < h.seats.length := by have := findS_lt m.page h.seats 0 j hf; omega
            obtain ⟨g, off, cap, hv2⟩ := HR3.out.row (by omega)
            have hv3 := HC3.out
            rw [hv2] at hv3
            cases hv3
            have hp := HPT.out
            rw [hf, seatPtr_some] at hp
            obtain rfl : some ⟨g, off + j * 8, none⟩ = pt := hp
            obtain ⟨G3, HS3, -, -⟩ := HR3.out.seat hv2 hj
            have hM1 : needM h m = if (h.seats[j].state == 2 && h.seats[j].epoch == m.epoch && h.seats[j].peer == m.frm) = true ∧ m.index.toNat < (partsL h.seats[j].letter).length then
                { h with out := h.out ++ [⟨2, h.id, h.seats[j].peer, h.seats[j].page, h.seats[j].epoch, m.index, (partsL h.seats[j].letter).length, (partsL h.seats[j].letter).getD m.index.toNat ⟨#[]⟩⟩] } else h := by
              unfold needM; rw [hf]; simp only [getS hj]
            have HM1 := Lib.hid hM1
            have HS3h := Lib.hid HS3
            have HLE := Lib.hid (HK.out.each _ (List.getElem_mem hj)).2.2.2
            obtain ⟨v5, v6, v7, s0, s1, s2, s3, s4, -⟩ := seatCells HS3
            clear hM1 hf HS3 hv2
            generalize h.seats[j] = y at *
            by_cases k2 : y.state = 2
            · rw [k2] at s1
              by_cases k4 : y.epoch = m.epoch
              · have q4 : (y.epoch != m.epoch) = false := by simpa using k4
                by_cases k5 : y.peer = m.frm
                · have q5 : (y.peer != m.frm) = false := by simpa using k5
                  have hc : (y.state == 2 && y.epoch == m.epoch && y.peer == m.frm) = true := by rw [k2, k4, k5]; simp
                  have HCC := Lib.hid hc
                  clear k2 k4 k5 hc
                  go_wp2_with fail
                  go_quiet (fail)
                  have RX4 := HR3.out.still ((Chg.refl _ w3).drewNR nq)
                  have t4 : (w3.drewN nq).cell? ⟨g, off + j * 8 + 4, none⟩ = some (.string y.letter) := s4
                  have HS4 := Lib.hid (HS3h.out.still ((Chg.refl _ w3).drewNR nq))
                  have HR4 := Lib.hid RX4
                  clear b0 b1 b2 b3 b4 b5 b6 b7 s0 s1 s2 s3 s4
                  generalize w3.drewN nq = w4 at *
                  clear RX4
                  go_wp2_with fail
                  refine (parts_any y.letter w4 HLE.out).mono ?_
                  rintro e w5 ⟨gq, oq, cq, rfl, hrow, hge, hc5⟩
                  have RX5 := HR4.out.still hc5
                  obtain ⟨b0, b1, b2, b3, b4, b5, b6, b7⟩ := RX5.cells
                  have hik : ((m.index.toNat : Nat) : Int) = m.index := by have := HIX.out.1; omega
                  have HIK := Lib.hid hik
                  have HR5 := Lib.hid RX5
                  have HS5 := Lib.hid (HS4.out.still hc5)
                  have hlen : ((partsL y.letter).length : Int) ≤ 9223372036854775807 := by
                    have := partsL_length y.letter.size y.letter (Nat.le_refl _)
                    have := HLE.out.lt
                    omega
                  have HROW := Lib.hid hrow
                  clear hge hc5 hrow RX5 b0 b1 b2 b3 b4 b6 b7
                  rw [← hik] at b5
                  have hk0 : (0 : Int) ≤ ((m.index.toNat : Nat) : Int) := Int.natCast_nonneg _
                  generalize m.index.toNat = ki at *
                  clear hik
                  by_cases kl : ki < (partsL y.letter).length
                  · have ql : decide (ki < (partsL y.letter).length) = true := decide_eq_true kl
                    have HKL := Lib.hid kl
                    have HLN := Lib.hid hlen
                    have hcell := HROW.out.cellAt ki (.string (partsL y.letter)[ki]) (by rw [List.getElem?_map, List.getElem?_eq_getElem kl]; rfl)
                    have HCE := Lib.hid hcell
                    obtain ⟨F5, H5, S5, hn5⟩ := HR5.out.ex
                    obtain ⟨vs5, vo5, d0, -⟩ := hostCells H5
                    obtain ⟨Go, HO, hout⟩ := hostOut H5
                    have HD0 := Lib.hid d0
                    have HOO := Lib.hid HO
                    have HPO := Lib.hid (fun w' out' (hp : PutPost w5 b o out' Go w') => (Rx.step HR5.out.low HR5.out.box S5 hn5 (hout w' out' hp).1 : Rx w w' b o F m { h with out := out' }))
                    clear kl hcell H5 S5 hn5 d0 HO hout
                    go_wp2_with fail
                    refine (part_any w5 b o h.id h.out Go g (off + j * 8) y G3 gq oq (partsL y.letter).length cq ki _ HD0.out HOO.out HK.out.out HS5.out HKL.out (by have := HLN.out; omega) HCE.out).mono ?_
                    rintro e w6 ⟨rfl, hp⟩
                    have RX6 := HPO.out _ _ hp
                    clear hp
                    go_wp2_with fail
                    go_end0
                    refine ⟨rfl, ?_⟩
                    rw [HM0.out, HM1.out, if_pos ⟨HCC.out, HKL.out⟩]
                    have hgq : (partsL y.letter).getD ki ⟨#[]⟩ = (partsL y.letter)[ki]'HKL.out := by simp [List.getD_eq_getElem?_getD, HKL.out]
                    rw [hgq, ← HIK.out]
                    exact RX6.post
                  · have ql : decide (ki < (partsL y.letter).length) = false := decide_eq_false kl
                    have HKL := Lib.hid kl
                    clear kl
                    go_wp2_with fail
                    go_end0
                    refine ⟨rfl, ?_⟩
                    rw [HM0.out, HM1.out, if_neg (fun x => HKL.out x.2)]
                    exact HR5.out.post
                · have q5 : (y.peer != m.frm) = true := by simpa using k5
                  have HM : Hid (needM h m = h) := Lib.hid (by rw [HM1.out, if_neg (by simp [k5])])
                  clear k2 k4 k5
                  go_wp2_with fail
                  go_quiet (fail)
                  go_wp2_with fail
                  refine bodyPost_ret (results_none rfl _ _ _) rfl ?_
                  exact ⟨rfl, by rw [HM0.out, HM.out]; exact (HR3.out.still ((Chg.refl _ w3).drewNR _)).post⟩
              · have q4 : (y.epoch != m.epoch) = true := by simpa using k4
                have HM : Hid (needM h m = h) := Lib.hid (by rw [HM1.out, if_neg (by simp [k4])])
                clear k2 k4
                go_wp2_with fail
                go_quiet (fail)
                go_wp2_with fail
                refine bodyPost_ret (results_none rfl _ _ _) rfl ?_
                exact ⟨rfl, by rw [HM0.out, HM.out]; exact (HR3.out.still ((Chg.refl _ w3).drewNR _)).post⟩
            · have q2 : (y.state != 2) = true := by simpa using k2
              have HM : Hid (needM h m = h) := Lib.hid (by rw [HM1.out, if_neg (by simp [k2])])
              clear k2
              go_wp2_with fail
              go_quiet (fail)
              go_wp2_with fail
              refine bodyPost_ret (results_none rfl _ _ _) rfl ?_
              exact ⟨rfl, by rw [HM0.out, HM.out]; exact (HR3.out.still ((Chg.refl _ w3).drewNR _)).post⟩
        · have hM : receiveM h m = settledM h m := by unfold receiveM; rw [if_neg (by rw [HFM.out, HD.out]; simp), if_neg k1, if_neg k3]
          have HM := Lib.hid hM
          have hk46 : m.kind = 4 ∨ m.kind = 6 := by
            have h8 := HFM.out
            unfold formedB at h8
            rw [Bool.and_eq_true] at h8
            have h9 := h8.2
            unfold Msg.tailB at h9
            rw [if_neg (by omega), if_neg (by omega), if_neg k3] at h9
            apply Classical.byContradiction
            intro hc
            rw [if_neg (by omega)] at h9
            cases h9
          clear k1 k3 hM
          rcases hk46 with hk | hk
          all_goals
            rw [hk] at b0
            rw [hk] at HSE
            clear hk
            go_wp2_with fail
            refine HSE.out.mono ?_
            rintro e w4 ⟨rfl, hp⟩
            have RX4 := HNX.out _ _ hp
            clear hp
            go_wp2_with fail
            go_end0
            exact ⟨rfl, by rw [HM.out]; exact RX4.post⟩
    · have q1 : (m.dst != h.id) = true := by simpa using hd
      have hM : receiveM h m = h := by unfold receiveM; rw [if_pos (.inr hd)]
      have HM := Lib.hid hM
      clear hM hd b0 b1 b2 b3 b4 b5 b6 b7 c0 c1
      refine wp_region_later (by kernel_rfl) (by kernel_rfl) ?_
      repeat (go_big_quiet_step ((go_at_call 46; exact Later.call (HFF.out _))))
      refine wpQuiet_nil ?_
      rintro _ ⟨x, rfl⟩
      go_wp2_with fail
      refine bodyPost_ret (results_none rfl _ _ _) rfl ?_
      exact ⟨rfl, by rw [HM.out]; exact (RX.still x.chg).post⟩
end Go.Proofs.Ytkoopagjjmdodaa
