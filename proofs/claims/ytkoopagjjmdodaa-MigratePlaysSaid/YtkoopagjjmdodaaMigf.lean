/-
  The operations of a machine of layer 54: Withdraw, Hand.
-/
import Derived.Test.YtkoopagjjmdodaaMige
namespace Go.Proofs.Ytkoopagjjmdodaa
open Go.RowKit
set_option linter.unusedVariables false

set_option maxHeartbeats 1600000 in
set_option maxRecDepth 100000 in
theorem withdraw_any (w : World) (b o : Nat) (h : Host) (F : List Nat) (page : ByteArray) (H : Here hostR w b o h F) (hl : Few h.out.length) :
    Calls Try.prog 13 #[.pointer (some ⟨b, o, none⟩), .string page] w fun e w' => e = .returned (.int .i64 (withdrawM h page).1) ∧ HostPost w b o (withdrawM h page).2 F w' := by
  obtain ⟨vs, vo, c0, c1, -, F1, F2, -⟩ := hostCells H
  cases hf : findS page h.seats 0 with
  | none =>
    have hM : withdrawM h page = (6, h) := by unfold withdrawM; rw [hf]
    rw [hM]
    show Calls _ _ _ _ fun e w' => e = .returned (.int .i64 6) ∧ HostPost w b o h F w'
    have HF := Lib.hid hf
    clear hM hf c0
    go_enter Try.func13, Try.ntmps13
    go_wp2_with fail
    refine (seat_any w b o h F page vs H c1).mono ?_
    rintro e w2 ⟨rfl, hc2⟩
    rw [HF.out, show seatPtr vs none = none from rfl]
    go_wp2_with fail
    go_ret
    exact ⟨rfl, hostStill H hc2⟩
  | some i =>
    have hlt := findS_lt page h.seats 0 i hf
    have hi : i < h.seats.length := by omega
    obtain ⟨g, off, cap, hv⟩ := hostRow H (by omega)
    rw [hv] at c1
    cases c1
    by_cases hst : h.seats[i].state = 2
    · have hM : withdrawM h page = (0, { h with seats := h.seats.set i { h.seats[i] with state := 3 }, out := h.out ++ [⟨5, h.id, h.seats[i].peer, h.seats[i].page, h.seats[i].epoch, 0, 0, ⟨#[]⟩⟩] }) := by unfold withdrawM; rw [hf]; simp [hi, hst]
      rw [hM]
      show Calls _ _ _ _ fun e w' => e = .returned (.int .i64 0) ∧ HostPost w b o { h with seats := h.seats.set i { h.seats[i] with state := 3 }, out := h.out ++ [⟨5, h.id, h.seats[i].peer, h.seats[i].page, h.seats[i].epoch, 0, 0, ⟨#[]⟩⟩] } F w'
      have HF := Lib.hid hf
      have hb : (h.seats[i].state == 2) = true := by simpa using hst
      clear hM hf hst hlt
      go_enter Try.func13, Try.ntmps13
      go_wp2_with fail
      refine (seat_any w b o h F page _ H hv).mono ?_
      rintro e w2 ⟨rfl, hc2⟩
      rw [HF.out, seatPtr_some]
      have H2 := H.still hc2
      have hv2 := hc2.cell hv
      have d0 := hc2.cell c0
      obtain ⟨G, HS, hgb, hbG, hback⟩ := hostSeat H2 hv2 hi
      obtain ⟨_, _, _, s0, s1, s2, s3, -⟩ := seatCells HS
      have fz := HS.frozen (off + i * 8 + 1)
      obtain ⟨G3, HS3, hs3⟩ := HS.setField seatR_state (y := 3) (v := .int .i64 3) rfl
      obtain ⟨hp3, hv3⟩ := hback _ _ _ HS3 hs3
      clear hv c0
      go_upto_region 7 with fail
      have d3 := hs3.cellNe d0 hbG (fun e => hgb e.symm)
      obtain ⟨F3, H3, hst3⟩ := hp3
      obtain ⟨Go3, HO3, hout⟩ := hostOut H3
      clear s0 s1 s2 s3 fz d0 hv2
      generalize w2.setCell ⟨g, off + i * 8 + 1, none⟩ (.int .i64 3) = w3 at *
      obtain ⟨_, _, _, s0, s1, s2, s3, -⟩ := seatCells HS3
      go_still_tail 14, (by kernel_rfl)
      change wpList _ _ _ _ _ w3.drew
      go_wp2_with fail
      refine (put_any w3.drew b o h.id h.out Go3 ⟨5, 0, h.seats[i].peer, h.seats[i].page, h.seats[i].epoch, 0, 0, ⟨#[]⟩⟩ d3 HO3.drew hl).mono ?_
      rintro e w4 ⟨rfl, G4, h4, hs4⟩
      have hP := (hout w4 _ ⟨G4, h4, hs4.drew⟩).1
      go_wp2_with fail
      go_ret
      obtain ⟨F4, H4, hst4⟩ := hP
      exact ⟨rfl, HostPost.pre hc2 ⟨F4, H4, hst3.trans hst4⟩⟩
    · have hM : withdrawM h page = (7, h) := by unfold withdrawM; rw [hf]; simp [hi, hst]
      rw [hM]
      show Calls _ _ _ _ fun e w' => e = .returned (.int .i64 7) ∧ HostPost w b o h F w'
      have HF := Lib.hid hf
      have hb : (h.seats[i].state == 2) = false := by simpa using hst
      obtain ⟨G, HS, -⟩ := hostSeat H hv hi
      clear hM hf hst hlt c0
      go_enter Try.func13, Try.ntmps13
      go_wp2_with fail
      refine (seat_any w b o h F page _ H hv).mono ?_
      rintro e w2 ⟨rfl, hc2⟩
      rw [HF.out, seatPtr_some]
      obtain ⟨_, _, _, s0, s1, s2, s3, -⟩ := seatCells (HS.still hc2)
      clear hv
      go_wp2_with fail
      go_ret
      exact ⟨rfl, hostStill H hc2⟩

/-- The parts of a letter from the k-th on. -/
def partMsgs (id : Int) (s : Seat) (n : Nat) : List ByteArray → Nat → List Msg
  | [], _ => []
  | u :: l, k => ⟨2, id, s.peer, s.page, s.epoch, k, n, u⟩ :: partMsgs id s n l (k + 1)
def offerMsg (id : Int) (s : Seat) (n : Nat) : Msg := ⟨1, id, s.peer, s.page, s.epoch, 0, n, ⟨#[]⟩⟩
def handM (h : Host) (page letter : ByteArray) (dst : Int) : Int × Host :=
  match findS page h.seats 0 with
  | none => (6, h)
  | some i =>
    let s := h.seats.getD i (newSeat page)
    if s.state ≠ 1 then (7, h) else if dst < 0 ∨ dst = h.id then (1, h) else if 16777216 < letter.size then (5, h) else
    let t : Seat := { s with state := 2, peer := dst, letter := letter, epoch := s.epoch + 1 }
    (0, { h with seats := h.seats.set i t, out := h.out ++ (offerMsg h.id t (partsL letter).length :: partMsgs h.id t (partsL letter).length (partsL letter) 0) })
theorem partMsgs_length (id : Int) (s : Seat) (n : Nat) : ∀ (l : List ByteArray) (k : Nat), (partMsgs id s n l k).length = l.length
  | [], _ => rfl
  | _ :: l, k => by rw [partMsgs, List.length_cons, List.length_cons, partMsgs_length id s n l]

set_option maxHeartbeats 1600000 in
set_option maxRecDepth 100000 in
theorem hand_no (w : World) (b o : Nat) (h : Host) (F : List Nat) (page letter : ByteArray) (dst : Int) (e : Int) (hM : handM h page letter dst = (e, h)) (he : e ≠ 0) (H : Here hostR w b o h F) (hls : letter.size ≤ 9223372036854775807) :
    Calls Try.prog 12 #[.pointer (some ⟨b, o, none⟩), .string page, .string letter, .int .i64 dst] w fun e' w' => e' = .returned (.int .i64 e) ∧ Chg (fun _ => False) w w' := by
  have HLS := Lib.hid hls
  clear hls
  obtain ⟨vs, vo, c0, c1, -, F1, F2, -⟩ := hostCells H
  cases hf : findS page h.seats 0 with
  | none =>
    unfold handM at hM
    rw [hf] at hM
    cases hM
    have HF := Lib.hid hf
    clear hf c0 he
    go_enter Try.func12, Try.ntmps12
    go_wp2_with fail
    refine (seat_any w b o h F page vs H c1).mono ?_
    rintro e w2 ⟨rfl, hc2⟩
    rw [HF.out, show seatPtr vs none = none from rfl]
    go_wp2_with fail
    go_ret
    exact ⟨rfl, hc2⟩
  | some i =>
    have hlt := findS_lt page h.seats 0 i hf
    have hi : i < h.seats.length := by omega
    obtain ⟨g, off, cap, hv⟩ := hostRow H (by omega)
    rw [hv] at c1
    cases c1
    obtain ⟨G, HS, -⟩ := hostSeat H hv hi
    unfold handM at hM
    rw [hf] at hM
    simp only [List.getD_eq_getElem?_getD, List.getElem?_eq_getElem hi, Option.getD_some] at hM
    by_cases hst : h.seats[i].state = 1
    · rw [if_neg (by simpa using hst)] at hM
      have hb : (h.seats[i].state == 1) = true := by simpa using hst
      by_cases ht : dst < 0
      · rw [if_pos (.inl ht)] at hM
        cases hM
        have hb2 : decide (dst < 0) = true := by simpa using ht
        have HF := Lib.hid hf
        clear hf hst hlt ht he
        go_enter Try.func12, Try.ntmps12
        go_wp2_with fail
        refine (seat_any w b o h F page _ H hv).mono ?_
        rintro e w2 ⟨rfl, hc2⟩
        rw [HF.out, seatPtr_some]
        obtain ⟨_, _, _, s0, s1, s2, s3, s4, -⟩ := seatCells (HS.still hc2)
        clear hv
        go_wp2_with fail
        go_ret
        exact ⟨rfl, hc2⟩
      · have hb2 : decide (dst < 0) = false := by simpa using ht
        by_cases ht2 : dst = h.id
        · rw [if_pos (.inr ht2)] at hM
          cases hM
          have hb3 : (dst == h.id) = true := by simpa using ht2
          have HF := Lib.hid hf
          clear hf hst hlt ht he ht2
          go_enter Try.func12, Try.ntmps12
          go_wp2_with fail
          refine (seat_any w b o h F page _ H hv).mono ?_
          rintro e w2 ⟨rfl, hc2⟩
          rw [HF.out, seatPtr_some]
          obtain ⟨_, _, _, s0, s1, s2, s3, s4, -⟩ := seatCells (HS.still hc2)
          have d0 := hc2.cell c0
          clear hv c0
          go_wp2_with fail
          go_ret
          exact ⟨rfl, hc2⟩
        · rw [if_neg (by simp [ht, ht2])] at hM
          by_cases hz : 16777216 < letter.size
          · rw [if_pos hz] at hM
            cases hM
            have hb3 : (dst == h.id) = false := by simpa using ht2
            have hb4 : decide ((16777216 : Int) < (letter.size : Int)) = true := by simp; omega
            have HF := Lib.hid hf
            clear hf hst hlt ht he ht2 hz
            have HLS2 := HLS.out
            go_enter Try.func12, Try.ntmps12
            go_wp2_with fail
            refine (seat_any w b o h F page _ H hv).mono ?_
            rintro e w2 ⟨rfl, hc2⟩
            rw [HF.out, seatPtr_some]
            obtain ⟨_, _, _, s0, s1, s2, s3, s4, -⟩ := seatCells (HS.still hc2)
            have d0 := hc2.cell c0
            clear hv c0
            go_wp2_with fail
            go_ret
            exact ⟨rfl, hc2⟩
          · rw [if_neg hz] at hM
            exact absurd (congrArg (·.1) hM).symm he
    · rw [if_pos hst] at hM
      cases hM
      have hb : (h.seats[i].state == 1) = false := by simpa using hst
      have HF := Lib.hid hf
      clear hf hst hlt he c0
      go_enter Try.func12, Try.ntmps12
      go_wp2_with fail
      refine (seat_any w b o h F page _ H hv).mono ?_
      rintro e w2 ⟨rfl, hc2⟩
      rw [HF.out, seatPtr_some]
      obtain ⟨_, _, _, s0, s1, s2, s3, s4, -⟩ := seatCells (HS.still hc2)
      clear hv
      go_wp2_with fail
      go_ret
      exact ⟨rfl, hc2⟩
end Go.Proofs.Ytkoopagjjmdodaa
