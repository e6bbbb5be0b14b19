/-
  The machine of layer 54: Tick.
-/
import Derived.Test.YtkoopagjjmdodaaMri
namespace Go.Proofs.Ytkoopagjjmdodaa
open Go.RowKit
set_option linter.unusedVariables false
set_option linter.unusedSimpArgs false

def cancelMsg (id : Int) (s : Seat) : Msg := ⟨5, id, s.peer, s.page, s.epoch, 0, 0, ⟨#[]⟩⟩
def needMsg (id : Int) (s : Seat) (k : Nat) : Msg := ⟨3, id, s.peer, s.page, s.epoch, (k : Int), 0, ⟨#[]⟩⟩
def missing : List Bool → Nat → List Nat
  | [], _ => []
  | true :: l, k => missing l (k + 1)
  | false :: l, k => k :: missing l (k + 1)
def tickS (id : Int) (s : Seat) : List Msg :=
  if s.state = 2 then [offerMsg id s (partsL s.letter).length] else if s.state = 3 then [cancelMsg id s] else if s.state = 4 then ((missing s.have_ 0).take 16).map (needMsg id s) else []
def tickM (h : Host) : Host := { h with out := h.out ++ h.seats.flatMap (tickS h.id) }
theorem tickS_len (id : Int) (s : Seat) : (tickS id s).length ≤ 16 := by
  unfold tickS
  split
  · simp
  · split
    · simp
    · split
      · rw [List.length_map, List.length_take]; omega
      · simp
theorem tick_len (id : Int) : ∀ l : List Seat, (l.flatMap (tickS id)).length ≤ l.length * 16
  | [] => by simp
  | s :: l => by
    have := tickS_len id s
    have := tick_len id l
    rw [List.flatMap_cons, List.length_append, List.length_cons]
    omega
theorem tick_take (id : Int) (l : List Seat) (k : Nat) (hk : k < l.length) : (l.take (k + 1)).flatMap (tickS id) = (l.take k).flatMap (tickS id) ++ tickS id l[k] := by
  rw [List.take_succ_eq_append_getElem hk, List.flatMap_append]
  simp
theorem missing_snoc : ∀ (l : List Bool) (x : Bool) (k : Nat), missing (l ++ [x]) k = missing l k ++ (if x = true then [] else [k + l.length])
  | [], true, k => rfl
  | [], false, k => rfl
  | true :: l, x, k => by
    rw [List.cons_append, missing, missing, missing_snoc l x (k + 1), List.length_cons, show k + 1 + l.length = k + (l.length + 1) by omega]
  | false :: l, x, k => by
    rw [List.cons_append, missing, missing, missing_snoc l x (k + 1), List.length_cons, show k + 1 + l.length = k + (l.length + 1) by omega, List.cons_append]
theorem missing_take (l : List Bool) (q : Nat) (hq : q < l.length) : missing (l.take (q + 1)) 0 = missing (l.take q) 0 ++ (if l[q] = true then [] else [q]) := by
  rw [List.take_succ_eq_append_getElem hq, missing_snoc, List.length_take, Nat.min_eq_left (by omega), Nat.zero_add]
/-- The block of the seats is not one of what is sent. -/
theorem host_g {w : World} {b o : Nat} {h : Host} {F : List Nat} {g off n cap : Nat} {Go : List Nat} (H : Here hostR w b o h F) (hv : w.cell? ⟨b, o + 1, none⟩ = some (.slice (some ⟨g, off, none⟩) n cap)) (HO : Here outR w b (o + 2) h.out Go) : g ∉ Go ∧ g ≠ b := by
  obtain ⟨vs, vo, c0, c1, c2, F1, F2, h1, h2, hF⟩ := hostCells H
  rw [hv] at c1
  cases c1
  obtain ⟨v, xs, Fs, d2, hopen⟩ := HO.openRow
  rw [c2] at d2
  cases d2
  obtain ⟨-, -, r3⟩ := hopen.flat
  obtain ⟨v', e1, -, e3⟩ := row_flat.1 h2
  cases e1
  obtain ⟨xs1, Fs1, hop1⟩ := Rep.opened h1
  have hg : g ∈ F1 := by rw [hop1.fp]; exact List.mem_append_left _ (mem_ownL.2 rfl)
  have hnd := H.nd
  rw [hF, List.nodup_append] at hnd
  refine ⟨fun hx => hnd.2.2 g hg g (by rw [e3, ← r3]; exact hx) rfl, fun e => ?_⟩
  exact H.nb (by rw [hF, ← e]; exact List.mem_append_left _ hg)
/-- Behind the first seats. -/
structure TInv (w wr : World) (b o : Nat) (F : List Nat) (h : Host) (out : List Msg) : Prop where
  ex : ∃ F', Here hostR wr b o { h with out := out } F' ∧ Step w wr b o 3 F F'
theorem TInv.put {w wr w' : World} {b o : Nat} {F : List Nat} {h : Host} {out : List Msg} (hi : TInv w wr b o F h out) : ∃ G, Here outR wr b (o + 2) out G ∧ wr.cell? ⟨b, o, none⟩ = some (.int .i64 h.id) ∧ ∀ w' out', PutPost wr b o out' G w' → TInv w w' b o F h out' := by
  obtain ⟨F', H, S⟩ := hi.ex
  obtain ⟨vs, vo, c0, -⟩ := hostCells H
  obtain ⟨G, HO, hout⟩ := hostOut H
  refine ⟨G, HO, c0, fun w' out' hp => ?_⟩
  obtain ⟨F2, H2, S2⟩ := (hout w' out' hp).1
  exact ⟨F2, H2, S.trans S2⟩
theorem TInv.put2 {w wr : World} {b o : Nat} {F : List Nat} {h : Host} {out : List Msg} (hi : TInv w wr b o F h out) {g off n cap : Nat} (hv : wr.cell? ⟨b, o + 1, none⟩ = some (.slice (some ⟨g, off, none⟩) n cap)) :
    ∃ G, Here outR wr b (o + 2) out G ∧ wr.cell? ⟨b, o, none⟩ = some (.int .i64 h.id) ∧ ∀ w' out', PutPost wr b o out' G w' → TInv w w' b o F h out' ∧ w'.cell? ⟨b, o + 1, none⟩ = some (.slice (some ⟨g, off, none⟩) n cap) ∧ ∀ j u, wr.cell? ⟨g, j, none⟩ = some u → w'.cell? ⟨g, j, none⟩ = some u := by
  obtain ⟨F', H, S⟩ := hi.ex
  obtain ⟨vs, vo, c0, -⟩ := hostCells H
  obtain ⟨G, HO, hout⟩ := hostOut H
  have hgg := host_g H hv HO
  refine ⟨G, HO, c0, fun w' out' hp => ⟨?_, (hout w' out' hp).2 _ hv, fun j u hu => ?_⟩⟩
  · obtain ⟨F2, H2, S2⟩ := (hout w' out' hp).1
    exact ⟨F2, H2, S.trans S2⟩
  · obtain ⟨G', HO', S'⟩ := hp
    exact S'.chg.cellS hu (by rintro (e | e); exact hgg.2 e; exact hgg.1 e)
set_option maxHeartbeats 6400000 in
set_option maxRecDepth 100000 in
theorem tick_any (w : World) (b o : Nat) (h : Host) (F : List Nat) (H : Here hostR w b o h F) (hk : HostOk h) (hlo : h.out.length + h.seats.length * 16 < 1000000000) :
    Calls Try.prog 34 #[.pointer (some ⟨b, o, none⟩)] w fun e w' => e = .returned (.tuple #[]) ∧ HostPost w b o (tickM h) F w' := by
  obtain ⟨vs, vo, c0, c1, c2, F1, F2, hs, -⟩ := hostCells H
  obtain ⟨xs, Fs, hopen⟩ := Rep.opened hs
  obtain ⟨p, cap, rfl, hle, hcap⟩ := hopen.val
  have hln : (h.seats.length : Int) ≤ 9223372036854775807 := by have := hk.seats.lt; omega
  have HK := Lib.hid hk
  have HLO := Lib.hid hlo
  have HI0 : TInv w w b o F h (h.out ++ (h.seats.take 0).flatMap (tickS h.id)) := ⟨F, by simpa using H, Step.refl _ _ _ _ _⟩
  clear hk hlo hs hopen hle hcap c0 c2 H
  go_enter Try.func34, Try.ntmps34
  go_wp2_with fail
  go_loopw [12] (fun u wr => ∃ k : Nat, k ≤ h.seats.length ∧ u = .int .i64 k ∧ TInv w wr b o F h (h.out ++ (h.seats.take k).flatMap (tickS h.id))) (fun u _ => h.seats.length - (intOf u).toNat)
  case atStart => exact ⟨0, Nat.zero_le _, rfl, HI0⟩
  case round =>
    obtain ⟨k, hkl, rfl, HI⟩ := hrel
    clear HI0 c1
    by_cases hlt : k < h.seats.length
    · obtain ⟨F', Hr, Sr⟩ := HI.ex
      obtain ⟨g, off, cp, hv⟩ := hostRow Hr (by show 0 < h.seats.length; omega)
      change wr.cell? ⟨b, o + 1, none⟩ = some (.slice (some ⟨g, off, none⟩) h.seats.length cp) at hv
      obtain ⟨G, HS, -⟩ := hostSeat Hr hv hlt
      change Here seatR wr g (off + k * 8) h.seats[k] G at HS
      have htt := tick_take h.id h.seats k hlt
      have hfl : ((h.seats.take k).flatMap (tickS h.id)).length ≤ k * 16 := by
        have := tick_len h.id (h.seats.take k)
        rw [List.length_take] at this
        have h2 : min k h.seats.length * 16 ≤ k * 16 := Nat.mul_le_mul_right _ (Nat.min_le_left ..)
        omega
      have HFO : Hid (Few (h.out ++ (h.seats.take k).flatMap (tickS h.id)).length) := Lib.hid ⟨by rw [List.length_append]; have := HLO.out; omega⟩
      have HLE := Lib.hid (HK.out.each _ (List.getElem_mem hlt)).2.2.2
      have HSO := Lib.hid (HK.out.each _ (List.getElem_mem hlt)).1
      have HTT := Lib.hid htt
      have HH := Lib.hid HI
      have HLT := Lib.hid hlt
      have h0 : (0 : Int) ≤ (k : Int) := Int.natCast_nonneg _
      have h1 : (k : Int) < (h.seats.length : Int) := by omega
      have HSH := Lib.hid HS
      obtain ⟨v5, v6, v7, s0, s1, s2, s3, s4, s5, s6, -⟩ := seatCells HS
      clear htt hfl HI Hr Sr HS hkl
      generalize hy : h.seats[k] = y at *
      have HY := Lib.hid hy
      clear hy
      by_cases k2 : y.state = 2
      · have hM : tickS h.id y = [offerMsg h.id y (partsL y.letter).length] := by unfold tickS; rw [if_pos k2]
        have HM := Lib.hid hM
        rw [k2] at s1
        clear k2 hM
        go_wp2_with fail
        refine (parts_any y.letter wr HLE.out).mono ?_
        rintro e w5 ⟨gq, oq, cq, rfl, hrow, hge, hc5⟩
        have HSQ := Lib.hid (HSH.out.still hc5)
        have hI5 : TInv w w5 b o F h (h.out ++ (h.seats.take k).flatMap (tickS h.id)) := by
          obtain ⟨F', Hr, Sr⟩ := HH.out.ex
          exact ⟨F', Hr.still hc5, Sr.trans (Step.ofChg hc5)⟩
        obtain ⟨Go, HO, d0, hput⟩ := hI5.put (w' := w5)
        have hlen : ((partsL y.letter).length : Int) ≤ 9223372036854775807 := by
          have := partsL_length y.letter.size y.letter (Nat.le_refl _)
          have := HLE.out.lt
          omega
        have HO5 := Lib.hid HO
        have HD0 := Lib.hid d0
        have HPT := Lib.hid hput
        clear hrow hge hc5 hI5 HO d0 hput s0 s1 s2 s3 s4 s5 s6 hv
        go_wp2_with fail
        refine (offer_any w5 b o h.id _ Go g (off + k * 8) y G ((partsL y.letter).length : Int) HD0.out HO5.out HFO.out HSQ.out).mono ?_
        rintro e w6 ⟨rfl, hp⟩
        have hI6 := HPT.out _ _ hp
        have HI6 := Lib.hid hI6
        clear hp hI6
        go_wp2_with fail
        go_roundw
        case rel => exact ⟨k + 1, HLT.out, by go_num, by rw [HTT.out, HM.out, ← List.append_assoc]; exact HI6.out⟩
        case measure => have := HLT.out; simp [intOf]; omega
      · by_cases k3 : y.state = 3
        · have hM : tickS h.id y = [cancelMsg h.id y] := by unfold tickS; rw [if_neg k2, if_pos k3]
          have HM := Lib.hid hM
          rw [k3] at s1
          have hI5 : TInv w wr.drew b o F h (h.out ++ (h.seats.take k).flatMap (tickS h.id)) := by
            obtain ⟨F', Hr, Sr⟩ := HH.out.ex
            exact ⟨F', Hr.drew, Sr.drewR⟩
          obtain ⟨Go, HO, d0, hput⟩ := hI5.put (w' := wr)
          have HO5 := Lib.hid HO
          have HD0 := Lib.hid d0
          have HPT := Lib.hid hput
          clear k2 k3 hM hI5 HO d0 hput
          go_wp2_with fail
          go_still_tail 14, (by kernel_rfl)
          change wpList _ _ _ _ _ wr.drew
          go_wp2_with fail
          refine (put_any wr.drew b o h.id _ Go ⟨5, 0, y.peer, y.page, y.epoch, 0, 0, ⟨#[]⟩⟩ HD0.out HO5.out HFO.out).mono ?_
          rintro e w6 ⟨rfl, hp⟩
          have hI6 := HPT.out _ _ hp
          have HI6 := Lib.hid hI6
          clear hp hI6
          go_wp2_with fail
          go_roundw
          case rel => exact ⟨k + 1, HLT.out, by go_num, by rw [HTT.out, HM.out, ← List.append_assoc]; exact HI6.out⟩
          case measure => have := HLT.out; simp [intOf]; omega
        · by_cases k4 : y.state = 4
          · have hM : tickS h.id y = ((missing y.have_ 0).take 16).map (needMsg h.id y) := by unfold tickS; rw [if_neg k2, if_neg k3, if_pos k4]
            have HM := Lib.hid hM
            rw [k4] at s1
            obtain ⟨p6, c6, rfl, -, -, -⟩ : ∃ p6 c6, v6 = .slice p6 y.have_.length c6 ∧ True ∧ True ∧ True := by
              obtain ⟨_, _, _, -, -, -, -, -, -, t6, -, F5, F6, F7, -, h6, -⟩ := seatCells HSH.out
              rw [s6] at t6
              cases t6
              obtain ⟨p6, c6, e, -⟩ := seen_flat h6
              rw [List.length_map] at e
              exact ⟨p6, c6, e, trivial, trivial, trivial⟩
            have hhl : (y.have_.length : Int) ≤ 9223372036854775807 := by
              have := HSO.out.same
              have := HSO.out.few
              omega
            have HV := Lib.hid hv
            have S6 := Lib.hid s6
            clear k2 k3 k4 hM
            go_wp2_with fail
            go_loopw [4, 60] (fun u4 u60 wq => ∃ (q nn : Nat), q ≤ y.have_.length ∧ u60 = .int .i64 q ∧ u4 = .int .i64 nn ∧ Hid (nn = ((missing (y.have_.take q) 0).take 16).length) ∧ TInv w wq b o F h ((h.out ++ (h.seats.take k).flatMap (tickS h.id)) ++ ((missing (y.have_.take q) 0).take 16).map (needMsg h.id y)) ∧ wq.cell? ⟨b, o + 1, none⟩ = some (.slice (some ⟨g, off, none⟩) h.seats.length cp) ∧ wq.cell? ⟨g, off + k * 8 + 6, none⟩ = some (.slice p6 y.have_.length c6)) (fun _ u60 _ => y.have_.length - (intOf u60).toNat)
            case atStart => exact ⟨0, 0, Nat.zero_le _, rfl, rfl, rfl, by simpa [missing] using HH.out, HV.out, S6.out⟩
            case round =>
              obtain ⟨q, nn, hq, rfl, rfl, HNN, hI2, hv2, hs6⟩ := hrel
              have HI2 := Lib.hid hI2
              have HV2 := Lib.hid hv2
              have HS6 := Lib.hid hs6
              have hnn : nn ≤ 16 := by have := HNN.out; rw [List.length_take] at this; omega
              by_cases hql : q < y.have_.length
              · obtain ⟨F2, Hr2, Sr2⟩ := hI2.ex
                obtain ⟨G2, HS2, -⟩ := hostSeat Hr2 hv2 HLT.out
                change Here seatR wr g (off + k * 8) h.seats[k] G2 at HS2
                rw [HY.out] at HS2
                obtain ⟨z5, z6, z7, t0, t1, t2, t3, t4, -, t6, -, F5, F6, F7, -, h6, -⟩ := seatCells HS2
                rw [hs6] at t6
                cases t6
                have hseen := seen_flat h6
                rw [show y.have_.length = (y.have_.map Value.bool).length by rw [List.length_map]] at hseen
                obtain ⟨gh, oh, rfl, hcell⟩ := hseen.ptr (Chg.refl _ _) (k := q) (u := .bool y.have_[q]) (by rw [List.getElem?_map, List.getElem?_eq_getElem hql]; rfl)
                have hmt := missing_take y.have_ q hql
                have HMT := Lib.hid hmt
                have q0 : (0 : Int) ≤ (q : Int) := Int.natCast_nonneg _
                have q1 : (q : Int) < (y.have_.length : Int) := by omega
                clear hmt h6 hseen HS2 Hr2 Sr2 hI2
                cases hx : y.have_[q] with
                | true =>
                  rw [hx] at hcell
                  have hstep : (missing (y.have_.take (q + 1)) 0) = missing (y.have_.take q) 0 := by rw [HMT.out, if_pos hx, List.append_nil]
                  have HSTEP := Lib.hid hstep
                  have HQL := Lib.hid hql
                  clear hstep
                  go_wp2_with fail
                  go_roundw
                  case rel => exact ⟨q + 1, nn, HQL.out, by go_num, rfl, by rw [HSTEP.out]; exact HNN, by rw [HSTEP.out]; exact HI2.out, HV2.out, HS6.out⟩
                  case measure => have := HQL.out; simp [intOf]; omega
                | false =>
                  rw [hx] at hcell
                  have hstep : (missing (y.have_.take (q + 1)) 0) = missing (y.have_.take q) 0 ++ [q] := by rw [HMT.out, if_neg (by rw [hx]; decide)]
                  have HSTEP := Lib.hid hstep
                  have HQL := Lib.hid hql
                  clear hstep
                  by_cases hn16 : nn = 16
                  · have hsame : (missing (y.have_.take (q + 1)) 0).take 16 = (missing (y.have_.take q) 0).take 16 := by
                      have := HNN.out
                      rw [List.length_take] at this
                      rw [HSTEP.out, List.take_append_of_le_length (by omega)]
                    have HSAME := Lib.hid hsame
                    clear hsame
                    subst hn16
                    go_wp2_with fail
                    go_roundw
                    case rel => exact ⟨q + 1, 16, HQL.out, by go_num, rfl, by rw [HSAME.out]; exact HNN, by rw [HSAME.out]; exact HI2.out, HV2.out, HS6.out⟩
                    case measure => have := HQL.out; simp [intOf]; omega
                  · have hl16 : (missing (y.have_.take q) 0).length < 16 := by
                      have := HNN.out
                      rw [List.length_take] at this
                      omega
                    have e1 : (missing (y.have_.take q) 0).take 16 = missing (y.have_.take q) 0 := List.take_of_length_le (by omega)
                    have e2 : (missing (y.have_.take q) 0 ++ [q]).take 16 = missing (y.have_.take q) 0 ++ [q] := List.take_of_length_le (by rw [List.length_append, List.length_singleton]; omega)
                    have hmore : (missing (y.have_.take (q + 1)) 0).take 16 = (missing (y.have_.take q) 0).take 16 ++ [q] := by
                      rw [HSTEP.out, e1, e2]
                    clear hl16 e1 e2
                    have HMORE := Lib.hid hmore
                    have hI5 : TInv w wr.drew b o F h ((h.out ++ (h.seats.take k).flatMap (tickS h.id)) ++ ((missing (y.have_.take q) 0).take 16).map (needMsg h.id y)) := by
                      obtain ⟨F2, Hr2, Sr2⟩ := HI2.out.ex
                      exact ⟨F2, Hr2.drew, Sr2.drewR⟩
                    obtain ⟨Go, HO, d0, hput⟩ := hI5.put2 (show wr.drew.cell? ⟨b, o + 1, none⟩ = some (.slice (some ⟨g, off, none⟩) h.seats.length cp) from HV2.out)
                    have hfo2 : Few ((h.out ++ (h.seats.take k).flatMap (tickS h.id)) ++ ((missing (y.have_.take q) 0).take 16).map (needMsg h.id y)).length := by
                      have h1 := HLO.out
                      have h2 := tick_len h.id (h.seats.take k)
                      rw [List.length_take] at h2
                      have h3 : min k h.seats.length * 16 ≤ k * 16 := Nat.mul_le_mul_right _ (Nat.min_le_left ..)
                      have h4 := HLT.out
                      refine ⟨?_⟩
                      rw [List.length_append, List.length_append, List.length_map, List.length_take]
                      omega
                    have HO5 := Lib.hid HO
                    have HD0 := Lib.hid d0
                    have HPT := Lib.hid hput
                    have HF2 := Lib.hid hfo2
                    have hn0 : (0 : Int) ≤ (nn : Int) := Int.natCast_nonneg _
                    have hn1 : (nn : Int) < 16 := by omega
                    clear hmore hI5 HO d0 hput hfo2
                    go_wp2_with fail
                    go_still_tail 15, (by kernel_rfl)
                    change wpList _ _ _ _ _ wr.drew
                    go_wp2_with fail
                    refine (put_any wr.drew b o h.id _ Go ⟨3, 0, y.peer, y.page, y.epoch, (q : Int), 0, ⟨#[]⟩⟩ HD0.out HO5.out HF2.out).mono ?_
                    rintro e w6 ⟨rfl, hp⟩
                    obtain ⟨hI6, hv6, hc6⟩ := HPT.out _ _ hp
                    have hs6' := hc6 _ _ (show wr.drew.cell? ⟨g, off + k * 8 + 6, none⟩ = _ from HS6.out)
                    have HI6 := Lib.hid hI6
                    have HV6 := Lib.hid hv6
                    have HS6' := Lib.hid hs6'
                    clear hp hI6 hv6 hs6' hc6
                    go_wp2_with fail
                    go_roundw
                    case rel => exact ⟨q + 1, nn + 1, HQL.out, by go_num, by go_num, Lib.hid (by rw [HMORE.out, List.length_append, List.length_singleton, ← HNN.out]), by rw [HMORE.out, List.map_append, ← List.append_assoc]; exact HI6.out, HV6.out, HS6'.out⟩
                    case measure => have := HQL.out; simp [intOf]; omega
              · obtain rfl : q = y.have_.length := by omega
                have hfin : TInv w wr b o F h (h.out ++ (h.seats.take (k + 1)).flatMap (tickS h.id)) := by
                  rw [HTT.out, HM.out, ← List.append_assoc]
                  have := HI2.out
                  rw [List.take_length] at this
                  exact this
                have HFIN := Lib.hid hfin
                clear hfin hql hq hI2 HI2
                go_wp2_with fail
                go_roundw
                case rel => exact ⟨k + 1, HLT.out, by go_num, HFIN.out⟩
                case measure => have := HLT.out; simp [intOf]; omega
          · have hM : tickS h.id y = [] := by unfold tickS; rw [if_neg k2, if_neg k3, if_neg k4]
            have HM := Lib.hid hM
            have q2 : (y.state == 2) = false := by simpa using k2
            have q3 : (y.state == 3) = false := by simpa using k3
            have q4 : (y.state == 4) = false := by simpa using k4
            clear k2 k3 k4 hM
            go_wp2_with fail
            go_roundw
            case rel => exact ⟨k + 1, HLT.out, by go_num, by rw [HTT.out, HM.out, List.append_nil]; exact HH.out⟩
            case measure => have := HLT.out; simp [intOf]; omega
    · obtain rfl : k = h.seats.length := by omega
      have HT : Hid (HostPost w b o (tickM h) F wr) := by
        obtain ⟨F', Hr, Sr⟩ := HI.ex
        rw [List.take_length] at Hr
        exact ⟨F', Hr, Sr⟩
      clear hlt hkl HI
      go_wp2_with fail
      go_end0
      exact ⟨rfl, HT.out⟩
end Go.Proofs.Ytkoopagjjmdodaa
