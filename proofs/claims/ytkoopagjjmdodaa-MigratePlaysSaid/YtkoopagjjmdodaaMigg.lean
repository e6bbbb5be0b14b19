/-
  The operations of a machine of layer 54: Hand.
-/
import Derived.Test.YtkoopagjjmdodaaMigf
import Derived.IntWalk
namespace Go.Proofs.Ytkoopagjjmdodaa
open Go.RowKit
set_option linter.unusedVariables false

/-- A number that is far from every bound. -/
structure Mid (e : Int) : Prop where
  lo : -1000000000 < e
  hi : e < 1000000000

set_option maxHeartbeats 3200000 in
set_option maxRecDepth 100000 in
theorem hand_ok (w : World) (b o : Nat) (h : Host) (F : List Nat) (page letter : ByteArray) (dst : Int) (i : Nat) (hi : i < h.seats.length) (hf : findS page h.seats 0 = some i) (hst : h.seats[i].state = 1) (ht : ¬ dst < 0) (ht2 : dst ≠ h.id) (hz : ¬ 16777216 < letter.size)
    (hep : Mid h.seats[i].epoch) (H : Here hostR w b o h F) (hlo : Few (h.out.length + 20000)) :
    Calls Try.prog 12 #[.pointer (some ⟨b, o, none⟩), .string page, .string letter, .int .i64 dst] w fun e' w' => e' = .returned (.int .i64 0) ∧
      HostPost w b o { h with seats := h.seats.set i { h.seats[i] with state := 2, epoch := h.seats[i].epoch + 1, peer := dst, letter := letter }, out := h.out ++ (offerMsg h.id { h.seats[i] with state := 2, epoch := h.seats[i].epoch + 1, peer := dst, letter := letter } (partsL letter).length :: partMsgs h.id { h.seats[i] with state := 2, epoch := h.seats[i].epoch + 1, peer := dst, letter := letter } (partsL letter).length (partsL letter) 0) } F w' := by
  obtain ⟨vs, vo, c0, c1, -, F1, F2, -⟩ := hostCells H
  obtain ⟨g, off, cap, hv⟩ := hostRow H (by omega)
  rw [hv] at c1
  cases c1
  have HF := Lib.hid hf
  have hb : (h.seats[i].state == 1) = true := by simpa using hst
  have hb2 : decide (dst < 0) = false := by simpa using ht
  have hb3 : (dst == h.id) = false := by simpa using ht2
  have hb4 : decide ((16777216 : Int) < (letter.size : Int)) = false := by simp; omega
  have HZ : Few letter.size := ⟨by omega⟩
  have hps : (partsL letter).length ≤ 16778 := by have := partsL_length letter.size letter (Nat.le_refl _); omega
  have HPS := Lib.hid hps
  have hw : IntKind.i64.wrap (h.seats[i].epoch + 1) = h.seats[i].epoch + 1 := IntWalk.i64_in _ (by have := hep.lo; have := hep.hi; omega)
  have HW := Lib.hid hw
  have hzn : (letter.size : Int) ≤ 9223372036854775807 := by omega
  have HZN := Lib.hid hzn
  clear hf hst ht ht2 hz hps hw hzn
  go_enter Try.func12, Try.ntmps12
  go_wp2_with fail
  refine (seat_any w b o h F page _ H hv).mono ?_
  rintro e w2 ⟨rfl, hc2⟩
  rw [HF.out, seatPtr_some]
  have H2 := H.still hc2
  have hv2 := hc2.cell hv
  have d0 := hc2.cell c0
  obtain ⟨G, HS, hgb, hbG, hback⟩ := hostSeat H2 hv2 hi
  obtain ⟨_, _, _, s0, s1, s2, s3, s4, -⟩ := seatCells HS
  have fz := fun j => HS.frozen j
  obtain ⟨G3, HS3, k3⟩ := HS.setField seatR_state (y := 2) (v := .int .i64 2) rfl
  obtain ⟨G4, HS4, k4⟩ := HS3.setField seatR_peer (y := dst) (v := .int .i64 dst) rfl
  obtain ⟨G5, HS5, k5⟩ := HS4.setField seatR_letter (y := letter) (v := .string letter) rfl
  obtain ⟨G6, HS6, k6⟩ := HS5.setField seatR_epoch (y := h.seats[i].epoch + 1) (v := .int .i64 (h.seats[i].epoch + 1)) rfl
  have hs6 := ((k3.trans k4).trans k5).trans k6
  replace HS6 : Here seatR _ g (off + i * 8) ({ h.seats[i] with state := 2, epoch := h.seats[i].epoch + 1, peer := dst, letter := letter } : Seat) G6 := HS6
  obtain ⟨⟨F6, H6, hstep6⟩, hv6⟩ := hback _ _ _ HS6 hs6
  have d6 := hs6.cellNe d0 hbG (fun e => hgb e.symm)
  clear hv c0
  have hep1 := hep.lo
  have hep2 := hep.hi
  go_upto_region 12 with fail
  have hs26 := hs6
  generalize (((w2.setCell ⟨g, off + i * 8 + 1, none⟩ (.int .i64 2)).setCell ⟨g, off + i * 8 + 3, none⟩ (.int .i64 dst)).setCell ⟨g, off + i * 8 + 4, none⟩ (.string letter)).setCell ⟨g, off + i * 8 + 2, none⟩ (.int .i64 (h.seats[i].epoch + 1)) = w6 at *
  clear k3 k4 k5 k6 HS3 HS4 HS5 hs6 s0 s1 s2 s3 s4 fz hback hv2 d0 hep1 hep2
  go_wp2_with fail
  refine (parts_any letter w6 HZ).mono ?_
  rintro e w7 ⟨lg, lo, lcap, rfl, hrow7, hlg, hc7⟩
  have H7 := H6.still hc7
  have HS7 := HS6.still hc7
  have d7 := hc7.cell d6
  have hv7 := hc7.cell hv6
  have hlt6 := H6.lt
  obtain ⟨Go, HO, hout⟩ := hostOut H7
  clear d6 hv6
  go_wp2_with fail
  refine (offer_any w7 b o h.id h.out Go g (off + i * 8) _ G6 (partsL letter).length d7 HO ⟨by have := hlo.lt; omega⟩ HS7).mono ?_
  rintro e w8 ⟨rfl, hp8⟩
  obtain ⟨⟨F8, H8, hs8⟩, hv8⟩ := hout _ _ hp8
  have hv8 := hv8 _ hv7
  generalize hN : (partsL letter).length = N at *
  have HN := Lib.hid hN
  clear hN hv7 d7
  have hN2 : (N : Int) ≤ 16778 := by have := HPS.out; omega
  generalize hT : ({ h.seats[i] with state := 2, epoch := h.seats[i].epoch + 1, peer := dst, letter := letter } : Seat) = T at *
  have HT := Lib.hid hT
  clear hT
  have hlg8 : lg ∉ F6 ∧ lg ≠ b := ⟨fun x => by have := hlt6.2 lg x; omega, fun x => by have := hlt6.1; omega⟩
  have hrow8 : ∀ wr Fr, Step w7 wr b o 3 F6 Fr → RowAt wr 9 1 (.slice (some ⟨lg, lo, none⟩) N lcap) N ((partsL letter).map Value.string) := fun wr Fr hs => hrow7.chg hs.chg (fun k hk x => by
    simp only [Value.ownBlock, Option.some.injEq] at hk
    subst hk
    exact x.elim hlg8.2 hlg8.1)
  have HR8 := Lib.hid hrow8
  clear hrow7 hrow8
  have hPL : (partsL letter).length = N := HN.out
  generalize hL : partsL letter = L at *
  have HL := Lib.hid hL
  clear hL
  have HPL := Lib.hid hPL
  clear hPL
  go_wp2_with fail
  go_loopw [11, 66] (fun _ t wr => ∃ (k : Nat) (out : List Msg) (Fr : List Nat), k ≤ N ∧ t = .int .i64 k ∧ Here hostR wr b o { h with seats := h.seats.set i T, out := out } Fr ∧ Step w7 wr b o 3 F6 Fr ∧ wr.cell? ⟨b, o + 1, none⟩ = some (.slice (some ⟨g, off, none⟩) h.seats.length cap) ∧ out.length = h.out.length + 1 + k ∧ Hid (out ++ partMsgs h.id T N (L.drop k) k = h.out ++ (offerMsg h.id T N :: partMsgs h.id T N L 0))) (fun _ t _ => N - (intOf t).toNat)
  case atStart => exact ⟨0, h.out ++ [offerMsg h.id T N], F8, Nat.zero_le _, rfl, H8, hs8, hv8, by simp, Lib.hid (by simp)⟩
  case round =>
    obtain ⟨k, out, Fr, hk, rfl, Hr, hsr, hvr, hlen, HO2⟩ := hrel
    by_cases hlt : k < N
    · have hd : decide (k < N) = true := by simp; omega
      have hLk : k < L.length := by have := HPL.out; omega
      have hcell := (HR8.out wr Fr hsr).cellAt k (.string L[k]) (by simp [hLk])
      obtain ⟨vs2, vo2, e0, -⟩ := hostCells Hr
      obtain ⟨Gr, HOr, houtr⟩ := hostOut Hr
      obtain ⟨Gs, HSr, -⟩ := hostSeat Hr hvr (i := i) (by simpa using hi)
      have hse : ({ h with seats := h.seats.set i T, out := out } : Host).seats[i]'(by simpa using hi) = T := by simp
      rw [hse] at HSr
      have HD : Hid (L.drop k = L[k] :: L.drop (k + 1)) := Lib.hid (List.drop_eq_getElem_cons hLk)
      have HLEN := Lib.hid hlen
      have HLT := Lib.hid hlt
      clear hlen hlt hse
      go_wp2_with fail
      refine (part_any wr b o h.id out Gr g (off + i * 8) T Gs lg lo N lcap k L[k] e0 HOr ⟨by have := hlo.lt; have := HLEN.out; omega⟩ HSr HLT.out (by omega) hcell).mono ?_
      rintro e w9 ⟨rfl, hp9⟩
      obtain ⟨⟨F9, H9, hs9⟩, hv9⟩ := houtr _ _ hp9
      have hkN : (k : Int) + 1 ≤ 16778 := by have := HLT.out; omega
      clear hcell e0 hd
      go_wp2_with fail
      go_roundw
      case rel =>
        refine ⟨k + 1, out ++ [⟨2, h.id, T.peer, T.page, T.epoch, k, N, L[k]⟩], F9, by have := HLT.out; omega, by go_num, H9, hsr.trans hs9, hv9 _ (by assumption), by have := HLEN.out; simp; omega, ?_⟩
        have h1 := HO2.out
        rw [HD.out, partMsgs] at h1
        exact Lib.hid (by simpa using h1)
      case measure => have := HLT.out; simp [intOf]; omega
    · have hd : decide (k < N) = false := by simp; omega
      have h1 := HO2.out
      rw [List.drop_of_length_le (by have := HPL.out; omega), partMsgs, List.append_nil] at h1
      have HO3 := Lib.hid h1
      clear hlt h1 hlen HO2
      go_wp2_with fail
      go_ret
      refine ⟨rfl, ?_⟩
      rw [HO3.out] at Hr
      obtain rfl := HT.out
      obtain rfl := HL.out
      obtain rfl := HN.out
      refine HostPost.pre hc2 ⟨Fr, Hr, hstep6.trans ((Step.ofChg hc7).trans hsr)⟩
end Go.Proofs.Ytkoopagjjmdodaa
