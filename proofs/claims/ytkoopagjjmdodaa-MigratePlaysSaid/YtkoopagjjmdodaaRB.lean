/-
  The reference of layer 54: Hand.
  The reference of layer 54: Hand in all cases.
  The reference of layer 54: Same.
-/
import Derived.Test.YtkoopagjjmdodaaRA
import Derived.Test.YtkoopagjjmdodaaLater
namespace Go.Proofs.Ytkoopagjjmdodaa
open Go.RowKit
set_option linter.unusedVariables false
set_option linter.unusedSimpArgs false

set_option maxHeartbeats 6400000 in
set_option maxRecDepth 100000 in
theorem rhand_ok (w : World) (b o : Nat) (h : Host) (F : List Nat) (page letter : ByteArray) (dst : Int) (i : Nat) (hi : i < h.seats.length) (hf : findS page h.seats 0 = some i) (hst : h.seats[i].state = 1) (ht : ¬ dst < 0) (ht2 : dst ≠ h.id) (hz : letter.size ≤ 16777216)
    (hep : Mid h.seats[i].epoch) (H : Here hostR w b o h F) (hsl : Few h.seats.length) (hlo : Few (h.out.length + 20000)) :
    Calls Try.prog 24 #[.pointer (some ⟨b, o, none⟩), .string page, .string letter, .int .i64 dst] w fun e' w' => e' = .returned (.int .i64 0) ∧
      HostPost w b o { h with seats := h.seats.set i { h.seats[i] with state := 2, epoch := h.seats[i].epoch + 1, peer := dst, letter := letter }, out := h.out ++ (offerMsg h.id { h.seats[i] with state := 2, epoch := h.seats[i].epoch + 1, peer := dst, letter := letter } (partsL letter).length :: partMsgs h.id { h.seats[i] with state := 2, epoch := h.seats[i].epoch + 1, peer := dst, letter := letter } (partsL letter).length (partsL letter) 0) } F w' := by
  obtain ⟨vs, vo, c0, c1, -, F1, F2, -⟩ := hostCells H
  obtain ⟨g, off, cap, hv⟩ := hostRow H (by omega)
  rw [hv] at c1
  cases c1
  have HF := Lib.hid hf
  have hb : (h.seats[i].state == 1) = true := by simpa using hst
  have hb2 : decide (dst < 0) = false := by simpa using ht
  have hb3 : (dst == h.id) = false := by simpa using ht2
  have hb4 : decide ((16777216 : Int) < (letter.size : Int)) = false := by simp; omega
  have hep1 := hep.lo
  have hep2 := hep.hi
  have i0 : (0 : Int) ≤ (i : Int) := Int.natCast_nonneg _
  have i1 : (i : Int) < (h.seats.length : Int) := by omega
  have hss : (h.seats.length : Int) ≤ 1000000000 := by have := hsl.lt; omega
  obtain ⟨G, HS, hgb, hbG, hback⟩ := hostSeat H hv hi
  obtain ⟨cb, T, v5, v6, v7, hblk, hsz, hown, q0, q1, q2, q3, q4, q5, q6, q7⟩ := seatBlock HS
  obtain ⟨v5', v6', v7', F5, F6, F7, he, k5, k6, k7, -⟩ := id hown
  cases he
  obtain ⟨xs5, Fs5, op5⟩ := Rep.opened k5
  obtain ⟨a5, c5, rfl, -, -⟩ := op5.val
  obtain ⟨xs6, Fs6, op6⟩ := Rep.opened k6
  obtain ⟨a6, c6, rfl, -, -⟩ := op6.val
  obtain ⟨xs7, Fs7, op7⟩ := Rep.opened k7
  obtain ⟨a7, c7, rfl, -, -⟩ := op7.val
  have s0 := cell_of_block hblk q0
  have s1 := cell_of_block hblk q1
  have s2 := cell_of_block hblk q2
  have s3 := cell_of_block hblk q3
  have s4 := cell_of_block hblk q4
  have s5 := cell_of_block hblk q5
  have s6 := cell_of_block hblk q6
  have s7 := cell_of_block hblk q7
  have HS57 := Lib.hid (And.intro s5 (And.intro s6 s7))
  have HH := Lib.hid H
  have HST := Lib.hid hst
  have HZ := Lib.hid hz
  have HI := Lib.hid hi
  have hblt := H.lt
  have hglt : g < w.heap.size := lt_of_block hblk
  clear hf hst ht ht2 hz hep hown hblk q0 q1 q2 q3 q4 q5 q6 q7 hsz k5 k6 k7 op5 op6 op7 H HS hback
  generalize hy : h.seats[i] = y at *
  have HY := Lib.hid hy
  clear hy
  go_enter Try.func24, Try.ntmps24
  go_wp2_with fail
  refine (rfind_any w b o h F page HH.out hsl).mono ?_
  rintro e w2 ⟨rfl, rfl⟩
  rw [HF.out, show idxOf (some i) = (i : Int) from rfl]
  go_upto_region 11 with fail
  have g1 := alloc_block w (.cells #[.string y.page, .int .i64 y.state, .int .i64 y.epoch, .int .i64 y.peer, .string y.letter, .slice a5 y.parts.length c5, .slice a6 y.have_.length c6, .slice a7 y.refuses.length c7] 67)
  have hc1 := Chg.alloc (fun _ => False) w (.cells #[.string y.page, .int .i64 y.state, .int .i64 y.epoch, .int .i64 y.peer, .string y.letter, .slice a5 y.parts.length c5, .slice a6 y.have_.length c6, .slice a7 y.refuses.length c7] 67)
  generalize hsb : w.heap.size = sb at *
  generalize w.alloc (.cells #[.string y.page, .int .i64 y.state, .int .i64 y.epoch, .int .i64 y.peer, .string y.letter, .slice a5 y.parts.length c5, .slice a6 y.have_.length c6, .slice a7 y.refuses.length c7] 67) = w1 at *
  have n0 : w1.cell? ⟨sb, 0, none⟩ = some (.string y.page) := cell_of_block (i := 0) g1 rfl
  have n1 : w1.cell? ⟨sb, 1, none⟩ = some (.int .i64 y.state) := cell_of_block (i := 1) g1 rfl
  have n2 : w1.cell? ⟨sb, 2, none⟩ = some (.int .i64 y.epoch) := cell_of_block (i := 2) g1 rfl
  have n3 : w1.cell? ⟨sb, 3, none⟩ = some (.int .i64 y.peer) := cell_of_block (i := 3) g1 rfl
  have n4 : w1.cell? ⟨sb, 4, none⟩ = some (.string y.letter) := cell_of_block (i := 4) g1 rfl
  have fz1 : ∀ j, w1.frozen? ⟨sb, j, none⟩ = false := fun j => frozen_of_block g1
  have HC1 := Lib.hid hc1
  have HG1 := Lib.hid g1
  have HC0 := Lib.hid c0
  have HV := Lib.hid hv
  clear s0 s1 s2 s3 s4 s5 s6 s7 hc1 g1 c0 hv hb hb2 hb3 hb4
  go_upto_region 15 with fail
  clear n0 n1 n2 n3 n4 fz1
  have hb5 := setCell_block (i := 4) (.string letter) (setCell_block (i := 3) (.int .i64 dst) (setCell_block (i := 2) (.int .i64 (y.epoch + 1)) (setCell_block (i := 1) (.int .i64 2) HG1.out)))
  have hc5 : Chg (fun _ => False) w ((((w1.setCell ⟨sb, 1, none⟩ (.int .i64 2)).setCell ⟨sb, 2, none⟩ (.int .i64 (y.epoch + 1))).setCell ⟨sb, 3, none⟩ (.int .i64 dst)).setCell ⟨sb, 4, none⟩ (.string letter)) :=
    (((HC1.out.setCellR _ _ (fun x => by simp at x; omega)).setCellR _ _ (fun x => by simp at x; omega)).setCellR _ _ (fun x => by simp at x; omega)).setCellR _ _ (fun x => by simp at x; omega)
  generalize (((w1.setCell ⟨sb, 1, none⟩ (.int .i64 2)).setCell ⟨sb, 2, none⟩ (.int .i64 (y.epoch + 1))).setCell ⟨sb, 3, none⟩ (.int .i64 dst)).setCell ⟨sb, 4, none⟩ (.string letter) = w5 at *
  change w5.heap[sb]? = some (.cells #[.string y.page, .int .i64 2, .int .i64 (y.epoch + 1), .int .i64 dst, .string letter, .slice a5 y.parts.length c5, .slice a6 y.have_.length c6, .slice a7 y.refuses.length c7] _ _) at hb5
  have n0 : w5.drew.cell? ⟨sb, 0, none⟩ = some (.string y.page) := cell_of_block (w := w5.drew) (i := 0) hb5 rfl
  have n1 : w5.drew.cell? ⟨sb, 1, none⟩ = some (.int .i64 2) := cell_of_block (w := w5.drew) (i := 1) hb5 rfl
  have n2 : w5.drew.cell? ⟨sb, 2, none⟩ = some (.int .i64 (y.epoch + 1)) := cell_of_block (w := w5.drew) (i := 2) hb5 rfl
  have n3 : w5.drew.cell? ⟨sb, 3, none⟩ = some (.int .i64 dst) := cell_of_block (w := w5.drew) (i := 3) hb5 rfl
  have n4 : w5.drew.cell? ⟨sb, 4, none⟩ = some (.string letter) := cell_of_block (w := w5.drew) (i := 4) hb5 rfl
  have n5 : w5.drew.cell? ⟨sb, 5, none⟩ = some (.slice a5 y.parts.length c5) := cell_of_block (w := w5.drew) (i := 5) hb5 rfl
  have n6 : w5.drew.cell? ⟨sb, 6, none⟩ = some (.slice a6 y.have_.length c6) := cell_of_block (w := w5.drew) (i := 6) hb5 rfl
  have n7 : w5.drew.cell? ⟨sb, 7, none⟩ = some (.slice a7 y.refuses.length c7) := cell_of_block (w := w5.drew) (i := 7) hb5 rfl
  have hvd : w5.drew.cell? ⟨b, o + 1, none⟩ = some (.slice (some ⟨g, off, none⟩) h.seats.length cap) := hc5.cell HV.out
  have H5 := HH.out.still hc5
  have hv5 := hc5.cell HV.out
  obtain ⟨G5, HS5, hgb5, hbG5, hback5⟩ := hostSeat H5 hv5 hi
  replace HS5 : Here seatR w5 g (off + i * 8) y G5 := Eq.mp (congrArg (fun z => Here seatR w5 g (off + i * 8) z G5) HY.out) HS5
  obtain ⟨cb5, T5, u5, u6, u7, hgk, hsz5, hown5, r0, r1, r2, r3, r4, r5, r6, r7⟩ := seatBlock HS5
  have e5 : u5 = .slice a5 y.parts.length c5 := Option.some.inj ((cell_of_block hgk r5).symm.trans (hc5.cell HS57.out.1))
  have e6 : u6 = .slice a6 y.have_.length c6 := Option.some.inj ((cell_of_block hgk r6).symm.trans (hc5.cell HS57.out.2.1))
  have e7 : u7 = .slice a7 y.refuses.length c7 := Option.some.inj ((cell_of_block hgk r7).symm.trans (hc5.cell HS57.out.2.2))
  subst e5 e6 e7
  have HOWN := Lib.hid hown5
  have HHS := Lib.hid HS5
  have HBACK := Lib.hid hback5
  obtain ⟨z0, y0, z1, y1, z2, y2, z3, y3, z4, y4, z5, y5, z6, y6, z7, y7, hw8⟩ := store8 hgk (.string y.page) (.int .i64 2) (.int .i64 (y.epoch + 1)) (.int .i64 dst) (.string letter) (.slice a5 y.parts.length c5) (.slice a6 y.have_.length c6) (.slice a7 y.refuses.length c7) ⟨r0, r1, r2, r3, r4, r5, r6, r7⟩
  have HW8 := Lib.hid hw8
  clear hw8
  have HB5 := Lib.hid hb5
  have HC5 := Lib.hid hc5
  clear hb5 hc5 hgk HG1 HC1 H5 hv5 HS5 hback5 hown5 r0 r1 r2 r3 r4 r5 r6 r7 hsz5
  go_region_law (fail)
  all_goals (
    rw [HW8.out]
    clear z0 y0 z1 y1 z2 y2 z3 y3 z4 y4 z5 y5 z6 y6 z7 y7 HW8 n0 n1 n2 n3 n4 n5 n6 n7 hvd
    have hT : seatR.own w5 [.string y.page, .int .i64 2, .int .i64 (y.epoch + 1), .int .i64 dst, .string letter, .slice a5 y.parts.length c5, .slice a6 y.have_.length c6, .slice a7 y.refuses.length c7] ({ y with state := 2, epoch := y.epoch + 1, peer := dst, letter := letter } : Seat) G5 := by
      obtain ⟨_, _, _, J5, J6, J7, he, k5, k6, k7, k8⟩ := HOWN.out
      cases he
      exact ⟨_, _, _, J5, J6, J7, rfl, k5, k6, k7, k8⟩
    obtain ⟨HS6, S6⟩ := HHS.out.putAll (Chg.refl _ _) (by show 0 < 8; decide) hT HHS.out.nd (fun k hk => .inl hk)
    have hb6 := (Chg.setCells (b := g) [.string y.page, .int .i64 2, .int .i64 (y.epoch + 1), .int .i64 dst, .string letter, .slice a5 y.parts.length c5, .slice a6 y.have_.length c6, .slice a7 y.refuses.length c7] w5 (off + i * 8)).drewR.keep HB5.out (fun e => by have e' : sb = g := e; omega)
    have HS6d := HS6.drew
    have S6d := S6.drewR
    clear HS6 S6 hT
    generalize (w5.setCells g (off + i * 8) [.string y.page, .int .i64 2, .int .i64 (y.epoch + 1), .int .i64 dst, .string letter, .slice a5 y.parts.length c5, .slice a6 y.have_.length c6, .slice a7 y.refuses.length c7]).drew = w6 at *
    obtain ⟨hp6, hv6⟩ := HBACK.out _ _ _ HS6d S6d
    obtain ⟨F6', H6, S6⟩ := hp6
    have d0 : w6.cell? ⟨b, o, none⟩ = some (.int .i64 h.id) := S6d.cellNe (HC5.out.cell HC0.out) hbG5 (fun e => hgb5 e.symm)
    obtain ⟨Go, HO, hout⟩ := hostOut H6
    have n0 : w6.cell? ⟨sb, 0, none⟩ = some (.string y.page) := cell_of_block (i := 0) hb6 rfl
    have n1 : w6.cell? ⟨sb, 1, none⟩ = some (.int .i64 2) := cell_of_block (i := 1) hb6 rfl
    have n2 : w6.cell? ⟨sb, 2, none⟩ = some (.int .i64 (y.epoch + 1)) := cell_of_block (i := 2) hb6 rfl
    have n3 : w6.cell? ⟨sb, 3, none⟩ = some (.int .i64 dst) := cell_of_block (i := 3) hb6 rfl
    have n4 : w6.cell? ⟨sb, 4, none⟩ = some (.string letter) := cell_of_block (i := 4) hb6 rfl
    have n5 : w6.cell? ⟨sb, 5, none⟩ = some (.slice a5 y.parts.length c5) := cell_of_block (i := 5) hb6 rfl
    have n6 : w6.cell? ⟨sb, 6, none⟩ = some (.slice a6 y.have_.length c6) := cell_of_block (i := 6) hb6 rfl
    have n7 : w6.cell? ⟨sb, 7, none⟩ = some (.slice a7 y.refuses.length c7) := cell_of_block (i := 7) hb6 rfl
    have HB6 := Lib.hid hb6
    have HH6 := Lib.hid H6
    have HS6 := Lib.hid S6
    have HO6 := Lib.hid HO
    have HOUT := Lib.hid hout
    have HD0 := Lib.hid d0
    have hof := roffer_any w6 b o h.id h.out Go { y with state := 2, epoch := y.epoch + 1, peer := dst, letter := letter } a5 a6 a7 y.parts.length y.have_.length y.refuses.length c5 c6 c7 d0 HO ⟨by have := hlo.lt; omega⟩ (by have := HZ.out; show letter.size ≤ _; omega)
    have HOF := Lib.hid hof
    have hsbb : sb ≠ b ∧ sb ∉ F := ⟨by omega, fun hx => by have := hblt.2 sb hx; omega⟩
    have HSB := Lib.hid hsbb
    clear hb6 H6 S6 HO hout HS6d S6d hv6 d0 hof hsbb
    go_wp2_with fail
    refine HOF.out.mono ?_
    rintro e w7 ⟨rfl, hp7⟩
    obtain ⟨⟨F7', H7, S7⟩, -⟩ := HOUT.out _ _ hp7
    have hs5 : sb < w5.heap.size := lt_of_block HB5.out
    have hsb6 : sb ∉ F6' := fun hx => by
      rcases HS6.out.new sb hx with x | x
      · exact HSB.out.2 x
      · omega
    have hsb7 : sb ∉ F7' := fun hx => by
      rcases S7.new sb hx with x | x
      · exact hsb6 x
      · have := lt_of_block HB6.out; omega
    have hb7 := S7.chg.keep HB6.out (fun x => x.elim (fun e => HSB.out.1 e) hsb6)
    have HP7 : Hid (∃ Fr, Here hostR w7 b o { h with seats := h.seats.set i { y with state := 2, epoch := y.epoch + 1, peer := dst, letter := letter }, out := h.out ++ [offerMsg h.id { y with state := 2, epoch := y.epoch + 1, peer := dst, letter := letter } (partsL letter).length] } Fr ∧ Step w5 w7 b o 3 F Fr ∧ sb ∉ Fr) := Lib.hid ⟨F7', H7, HS6.out.trans S7, hsb7⟩
    have HB7 := Lib.hid hb7
    clear hp7 H7 S7 hb7 hsb6 hsb7 hs5 HOF HOUT HO6 HH6 HS6 HB6 HD0 n0 n1 n2 n3 n4 n5 n6 n7
    have hPm : (partsL letter).length ≤ 17000 := by have := partsL_length _ letter (Nat.le_refl _); have := HZ.out; omega
    obtain ⟨P, hP⟩ : ∃ P, (partsL letter).length = P := ⟨_, rfl⟩
    have HPP := Lib.hid hP
    rw [hP] at HP7 hPm
    have HPM := Lib.hid hPm
    have p1 : (P : Int) ≤ 17000 := by omega
    clear hP hPm
    go_wp2_with fail
    go_loopw [11] (fun s11 wr => ∃ (k : Nat) (out : List Msg), k ≤ P ∧ s11 = .int .i64 k ∧ out.length = h.out.length + 1 + k ∧ Hid (∃ Fr, Here hostR wr b o { h with seats := h.seats.set i ({ y with state := 2, epoch := y.epoch + 1, peer := dst, letter := letter } : Seat), out := out } Fr ∧ Step w5 wr b o 3 F Fr ∧ sb ∉ Fr) ∧ Hid (wr.heap[sb]? = some (.cells #[.string y.page, .int .i64 2, .int .i64 (y.epoch + 1), .int .i64 dst, .string letter, .slice a5 y.parts.length c5, .slice a6 y.have_.length c6, .slice a7 y.refuses.length c7] 67 (0, 0))) ∧ Hid (out ++ partMsgs h.id ({ y with state := 2, epoch := y.epoch + 1, peer := dst, letter := letter } : Seat) P ((partsL letter).drop k) k = h.out ++ (offerMsg h.id ({ y with state := 2, epoch := y.epoch + 1, peer := dst, letter := letter } : Seat) P :: partMsgs h.id ({ y with state := 2, epoch := y.epoch + 1, peer := dst, letter := letter } : Seat) P (partsL letter) 0))) (fun s11 _ => P - (intOf s11).toNat)
    case atStart => exact ⟨0, h.out ++ [offerMsg h.id ({ y with state := 2, epoch := y.epoch + 1, peer := dst, letter := letter } : Seat) P], Nat.zero_le _, rfl, by simp, HP7, HB7, Lib.hid (by simp)⟩
    case round =>
      obtain ⟨k, out, hk, rfl, hlen, HR, HBR, HO2⟩ := hrel
      have k0 : (0 : Int) ≤ (k : Int) := Int.natCast_nonneg _
      have hcn := rcount_any letter wr (by have := HZ.out; omega)
      rw [HPP.out] at hcn
      have HCN := Lib.hid hcn
      clear hcn HP7 HB7
      by_cases hlt : k < P
      · have k1 : (k : Int) < (P : Int) := by omega
        have hkl : k < (partsL letter).length := by rw [HPP.out]; exact hlt
        obtain ⟨Fr, Hr, Sr, hsr⟩ := HR.out
        obtain ⟨vs2, vo2, e0, -⟩ := hostCells Hr
        obtain ⟨Gr, HOr, houtr⟩ := hostOut Hr
        have hpt := rpart_any wr b o h.id out Gr ({ y with state := 2, epoch := y.epoch + 1, peer := dst, letter := letter } : Seat) k a5 a6 a7 y.parts.length y.have_.length y.refuses.length c5 c6 c7 e0 HOr ⟨by have := hlo.lt; have := HPM.out; omega⟩ (by have := HZ.out; show letter.size ≤ _; omega) hkl
        have hgd : (partsL letter).getD k ⟨#[]⟩ = (partsL letter)[k] := by rw [List.getD_eq_getElem?_getD, List.getElem?_eq_getElem hkl]; rfl
        have hdr : (partsL letter).drop k = (partsL letter)[k] :: (partsL letter).drop (k + 1) := List.drop_eq_getElem_cons hkl
        have n0 : wr.cell? ⟨sb, 0, none⟩ = some (.string y.page) := cell_of_block (i := 0) HBR.out rfl
        have n1 : wr.cell? ⟨sb, 1, none⟩ = some (.int .i64 2) := cell_of_block (i := 1) HBR.out rfl
        have n2 : wr.cell? ⟨sb, 2, none⟩ = some (.int .i64 (y.epoch + 1)) := cell_of_block (i := 2) HBR.out rfl
        have n3 : wr.cell? ⟨sb, 3, none⟩ = some (.int .i64 dst) := cell_of_block (i := 3) HBR.out rfl
        have n4 : wr.cell? ⟨sb, 4, none⟩ = some (.string letter) := cell_of_block (i := 4) HBR.out rfl
        have n5 : wr.cell? ⟨sb, 5, none⟩ = some (.slice a5 y.parts.length c5) := cell_of_block (i := 5) HBR.out rfl
        have n6 : wr.cell? ⟨sb, 6, none⟩ = some (.slice a6 y.have_.length c6) := cell_of_block (i := 6) HBR.out rfl
        have n7 : wr.cell? ⟨sb, 7, none⟩ = some (.slice a7 y.refuses.length c7) := cell_of_block (i := 7) HBR.out rfl
        have HPT := Lib.hid hpt
        have HOR := Lib.hid houtr
        have HGD := Lib.hid hgd
        have HDR := Lib.hid hdr
        have HSR := Lib.hid Sr
        have HSB2 := Lib.hid hsr
        have HLT := Lib.hid hlt
        have HLEN := Lib.hid hlen
        clear hpt houtr hgd hdr Sr hsr hlen HOr Hr e0 HR
        go_wp2_with fail
        refine HCN.out.mono ?_
        rintro e w8 ⟨rfl, rfl⟩
        go_wp2_with fail
        refine HPT.out.mono ?_
        rintro e w9 ⟨rfl, hp9⟩
        obtain ⟨⟨F9, H9, S9⟩, -⟩ := HOR.out _ _ hp9
        have hs9 : sb ∉ F9 := fun hx => by
          rcases S9.new sb hx with x | x
          · exact HSB2.out x
          · have := lt_of_block HBR.out; omega
        have hb9 := S9.chg.keep HBR.out (fun x => x.elim (fun e => HSB.out.1 e) HSB2.out)
        have HR9 : Hid (∃ Fr, Here hostR w9 b o { h with seats := h.seats.set i ({ y with state := 2, epoch := y.epoch + 1, peer := dst, letter := letter } : Seat), out := out ++ [⟨2, h.id, dst, y.page, y.epoch + 1, k, P, (partsL letter)[k]'(by rw [HPP.out]; exact HLT.out)⟩] } Fr ∧ Step w5 w9 b o 3 F Fr ∧ sb ∉ Fr) := Lib.hid ⟨F9, by
          have h9 := H9
          rw [HGD.out, HPP.out] at h9
          exact h9, HSR.out.trans S9, hs9⟩
        have HB9 := Lib.hid hb9
        clear hp9 H9 S9 hs9 hb9 HOR HPT HSR HSB2 n0 n1 n2 n3 n4 n5 n6 n7
        go_wp2_with fail
        go_roundw
        case rel =>
          refine ⟨k + 1, _, HLT.out, by go_num, by have := HLEN.out; simp; omega, HR9, HB9, Lib.hid ?_⟩
          have h1 := HO2.out
          rw [HDR.out, partMsgs] at h1
          simpa using h1
        case measure => have := HLT.out; simp [intOf]; omega
      · have hkP : k = P := by omega
        subst hkP
        have h1 := HO2.out
        rw [List.drop_of_length_le (by rw [HPP.out]; exact Nat.le_refl _), partMsgs, List.append_nil] at h1
        have HO3 := Lib.hid h1
        clear hlt h1 hlen HO2 hk
        go_wp2_with fail
        refine HCN.out.mono ?_
        rintro e w8 ⟨rfl, rfl⟩
        go_wp2_with fail
        go_ret
        obtain ⟨Fr, Hr, Sr, -⟩ := HR.out
        rw [HO3.out] at Hr
        refine ⟨rfl, ?_⟩
        have hq := HPP.out
        subst hq
        exact ⟨Fr, Hr, (Step.ofChg HC5.out).trans Sr⟩)
end Go.Proofs.Ytkoopagjjmdodaa
namespace Go.Proofs.Ytkoopagjjmdodaa
open Go.RowKit
set_option linter.unusedVariables false
set_option linter.unusedSimpArgs false

set_option maxHeartbeats 1600000 in
set_option maxRecDepth 100000 in
theorem rhand_none (w : World) (b o : Nat) (h : Host) (F : List Nat) (page letter : ByteArray) (dst : Int) (hf : findS page h.seats 0 = none) (H : Here hostR w b o h F) (hsl : Few h.seats.length) :
    Calls Try.prog 24 #[.pointer (some ⟨b, o, none⟩), .string page, .string letter, .int .i64 dst] w fun e' w' => e' = .returned (.int .i64 6) ∧ w = w' := by
  have HF := Lib.hid hf
  clear hf
  go_enter Try.func24, Try.ntmps24
  go_wp2_with fail
  refine (rfind_any w b o h F page H hsl).mono ?_
  rintro e w2 ⟨rfl, rfl⟩
  rw [HF.out, show idxOf none = -1 from rfl]
  go_wp2_with fail
  go_ret
  exact ⟨rfl, rfl⟩
set_option maxHeartbeats 1600000 in
set_option maxRecDepth 100000 in
theorem rhand_no (w : World) (b o : Nat) (h : Host) (F : List Nat) (page letter : ByteArray) (dst : Int) (i : Nat) (hi : i < h.seats.length) (hf : findS page h.seats 0 = some i) (hbad : h.seats[i].state ≠ 1 ∨ (h.seats[i].state = 1 ∧ (dst < 0 ∨ dst = h.id))) (H : Here hostR w b o h F) (hsl : Few h.seats.length) :
    Calls Try.prog 24 #[.pointer (some ⟨b, o, none⟩), .string page, .string letter, .int .i64 dst] w fun e' w' => e' = .returned (.int .i64 (if h.seats[i].state ≠ 1 then 7 else 1)) ∧ w = w' := by
  have HF := Lib.hid hf
  have i0 : (0 : Int) ≤ (i : Int) := Int.natCast_nonneg _
  have i1 : (i : Int) < (h.seats.length : Int) := by omega
  have hss : (h.seats.length : Int) ≤ 1000000000 := by have := hsl.lt; omega
  obtain ⟨vs, vo, c0, c1, -, F1, F2, -⟩ := hostCells H
  obtain ⟨g, off, cap, hv⟩ := hostRow H (by omega)
  rw [hv] at c1
  cases c1
  obtain ⟨G, HS, -⟩ := hostSeat H hv hi
  obtain ⟨_, _, _, s0, s1, -⟩ := seatCells HS
  generalize h.seats[i] = y at *
  clear hf HS
  rcases hbad with h1 | ⟨h1, h2⟩
  · rw [if_pos h1]
    have hb : (y.state == 1) = false := by simpa using h1
    clear h1
    go_enter Try.func24, Try.ntmps24
    go_wp2_with fail
    refine (rfind_any w b o h F page H hsl).mono ?_
    rintro e w2 ⟨rfl, rfl⟩
    rw [HF.out, show idxOf (some i) = (i : Int) from rfl]
    go_wp2_with fail
    go_ret
    exact ⟨rfl, rfl⟩
  · rw [if_neg (by simpa using h1)]
    have hb : (y.state == 1) = true := by simpa using h1
    clear h1
    by_cases h3 : dst < 0
    · have hb2 : decide (dst < 0) = true := by simpa using h3
      clear h2 h3
      go_enter Try.func24, Try.ntmps24
      go_wp2_with fail
      refine (rfind_any w b o h F page H hsl).mono ?_
      rintro e w2 ⟨rfl, rfl⟩
      rw [HF.out, show idxOf (some i) = (i : Int) from rfl]
      go_wp2_with fail
      go_ret
      exact ⟨rfl, rfl⟩
    · have hb2 : decide (dst < 0) = false := by simpa using h3
      have hb3 : (dst == h.id) = true := by simpa using h2.resolve_left h3
      clear h2 h3
      go_enter Try.func24, Try.ntmps24
      go_wp2_with fail
      refine (rfind_any w b o h F page H hsl).mono ?_
      rintro e w2 ⟨rfl, rfl⟩
      rw [HF.out, show idxOf (some i) = (i : Int) from rfl]
      go_wp2_with fail
      go_ret
      exact ⟨rfl, rfl⟩
theorem rhand_any (w : World) (b o : Nat) (h : Host) (F : List Nat) (page letter : ByteArray) (dst : Int) (H : Here hostR w b o h F) (hls : letter.size ≤ 16777216) (hk : ∀ s ∈ h.seats, Mid s.epoch) (hsl : Few h.seats.length) (hlo : Few (h.out.length + 20000)) :
    Calls Try.prog 24 #[.pointer (some ⟨b, o, none⟩), .string page, .string letter, .int .i64 dst] w fun e' w' => e' = .returned (.int .i64 (handM h page letter dst).1) ∧ HostPost w b o (handM h page letter dst).2 F w' := by
  cases hf : findS page h.seats 0 with
  | none =>
    have hM : handM h page letter dst = (6, h) := by unfold handM; rw [hf]
    rw [hM]
    exact (rhand_none w b o h F page letter dst hf H hsl).mono fun _ _ x => ⟨x.1, hostStill H (x.2 ▸ Chg.refl _ _)⟩
  | some i =>
    have hi : i < h.seats.length := by have := findS_lt page h.seats 0 i hf; omega
    have hg : h.seats.getD i (newSeat page) = h.seats[i] := by simp [List.getD_eq_getElem?_getD, hi]
    have hM : handM h page letter dst = if h.seats[i].state ≠ 1 then (7, h) else if dst < 0 ∨ dst = h.id then (1, h) else if 16777216 < letter.size then (5, h) else
        (0, { h with seats := h.seats.set i { h.seats[i] with state := 2, peer := dst, letter := letter, epoch := h.seats[i].epoch + 1 }, out := h.out ++ (offerMsg h.id { h.seats[i] with state := 2, peer := dst, letter := letter, epoch := h.seats[i].epoch + 1 } (partsL letter).length :: partMsgs h.id { h.seats[i] with state := 2, peer := dst, letter := letter, epoch := h.seats[i].epoch + 1 } (partsL letter).length (partsL letter) 0) }) := by
      unfold handM
      rw [hf]
      simp only
      rw [hg]
    by_cases h1 : h.seats[i].state ≠ 1
    · rw [hM, if_pos h1]
      refine (rhand_no w b o h F page letter dst i hi hf (.inl h1) H hsl).mono fun _ _ x => ⟨?_, hostStill H (x.2 ▸ Chg.refl _ _)⟩
      rw [x.1, if_pos h1]
    · have h1' : h.seats[i].state = 1 := Classical.byContradiction h1
      by_cases h2 : dst < 0 ∨ dst = h.id
      · rw [hM, if_neg h1, if_pos h2]
        refine (rhand_no w b o h F page letter dst i hi hf (.inr ⟨h1', h2⟩) H hsl).mono fun _ _ x => ⟨?_, hostStill H (x.2 ▸ Chg.refl _ _)⟩
        rw [x.1, if_neg h1]
      · rw [hM, if_neg h1, if_neg h2, if_neg (by omega)]
        exact rhand_ok w b o h F page letter dst i hi hf h1' (fun x => h2 (.inl x)) (fun x => h2 (.inr x)) hls (hk _ (List.getElem_mem hi)) H hsl hlo
end Go.Proofs.Ytkoopagjjmdodaa
namespace Go.Proofs.Ytkoopagjjmdodaa
open Go.RowKit
set_option linter.unusedVariables false
set_option linter.unusedSimpArgs false

set_option maxHeartbeats 6400000 in
set_option maxRecDepth 100000 in
theorem rsame_any (w : World) (s : Seat) (v5 v6 v7 u5 u6 u7 : Value) (h5 : Seen w v5 (s.parts.map Value.string)) (h6 : Seen w v6 (s.have_.map Value.bool)) (h7 : Seen w v7 (s.refuses.map (Value.int .i64))) (k5 : Seen w u5 (s.parts.map Value.string)) (k6 : Seen w u6 (s.have_.map Value.bool)) (k7 : Seen w u7 (s.refuses.map (Value.int .i64)))
    (f5 : Few s.parts.length) (f6 : Few s.have_.length) (f7 : Few s.refuses.length) :
    Calls Try.prog 30 #[.agg #[.string s.page, .int .i64 s.state, .int .i64 s.epoch, .int .i64 s.peer, .string s.letter, v5, v6, v7], .agg #[.string s.page, .int .i64 s.state, .int .i64 s.epoch, .int .i64 s.peer, .string s.letter, u5, u6, u7]] w fun e w' => e = .returned (.bool true) ∧ Chg (fun _ => False) w w' := by
  obtain ⟨p5, c5, rfl, -⟩ := id h5
  obtain ⟨p6, c6, rfl, -⟩ := id h6
  obtain ⟨p7, c7, rfl, -⟩ := id h7
  obtain ⟨q5, d5, rfl, -⟩ := id k5
  obtain ⟨q6, d6, rfl, -⟩ := id k6
  obtain ⟨q7, d7, rfl, -⟩ := id k7
  simp only [List.length_map] at *
  have l5 : (s.parts.length : Int) ≤ 1000000000 := by have := f5.lt; omega
  have l6 : (s.have_.length : Int) ≤ 1000000000 := by have := f6.lt; omega
  have l7 : (s.refuses.length : Int) ≤ 1000000000 := by have := f7.lt; omega
  have H5 := Lib.hid h5
  have H6 := Lib.hid h6
  have H7 := Lib.hid h7
  have K5 := Lib.hid k5
  have K6 := Lib.hid k6
  have K7 := Lib.hid k7
  clear h5 h6 h7 k5 k6 k7 f5 f6 f7
  generalize hA : s.parts.length = A at *
  generalize hB : s.have_.length = B at *
  generalize hC : s.refuses.length = C at *
  have HA := Lib.hid hA
  have HB := Lib.hid hB
  have HCC := Lib.hid hC
  clear hA hB hC
  have g1 := alloc_block w (.cells #[.string s.page, .int .i64 s.state, .int .i64 s.epoch, .int .i64 s.peer, .string s.letter, .slice p5 A c5, .slice p6 B c6, .slice p7 C c7] 67)
  have g2 := alloc_block (w.alloc (.cells #[.string s.page, .int .i64 s.state, .int .i64 s.epoch, .int .i64 s.peer, .string s.letter, .slice p5 A c5, .slice p6 B c6, .slice p7 C c7] 67)) (.cells #[.string s.page, .int .i64 s.state, .int .i64 s.epoch, .int .i64 s.peer, .string s.letter, .slice q5 A d5, .slice q6 B d6, .slice q7 C d7] 67)
  have hc := (Chg.alloc (fun _ => False) w (.cells #[.string s.page, .int .i64 s.state, .int .i64 s.epoch, .int .i64 s.peer, .string s.letter, .slice p5 A c5, .slice p6 B c6, .slice p7 C c7] 67)).allocR (.cells #[.string s.page, .int .i64 s.state, .int .i64 s.epoch, .int .i64 s.peer, .string s.letter, .slice q5 A d5, .slice q6 B d6, .slice q7 C d7] 67)
  have g1b := alloc_old (.cells #[.string s.page, .int .i64 s.state, .int .i64 s.epoch, .int .i64 s.peer, .string s.letter, .slice q5 A d5, .slice q6 B d6, .slice q7 C d7] 67) g1
  have hsz : (w.alloc (.cells #[.string s.page, .int .i64 s.state, .int .i64 s.epoch, .int .i64 s.peer, .string s.letter, .slice p5 A c5, .slice p6 B c6, .slice p7 C c7] 67)).heap.size = w.heap.size + 1 := by simp
  rw [hsz] at g2
  clear g1 hsz
  go_enter Try.func30, Try.ntmps30
  go_upto_region 1 with fail
  generalize (w.alloc (.cells #[.string s.page, .int .i64 s.state, .int .i64 s.epoch, .int .i64 s.peer, .string s.letter, .slice p5 A c5, .slice p6 B c6, .slice p7 C c7] 67)).alloc (.cells #[.string s.page, .int .i64 s.state, .int .i64 s.epoch, .int .i64 s.peer, .string s.letter, .slice q5 A d5, .slice q6 B d6, .slice q7 C d7] 67) = w1 at *
  generalize w.heap.size = mb at *
  have G1 := Lib.hid g1b
  have G2 := Lib.hid g2
  have HC := Lib.hid hc
  have m0 : w1.cell? ⟨mb, 0, none⟩ = some (.string s.page) := cell_of_block (i := 0) g1b rfl
  have n0 : w1.cell? ⟨mb + 1, 0, none⟩ = some (.string s.page) := cell_of_block (i := 0) g2 rfl
  have m1 : w1.cell? ⟨mb, 1, none⟩ = some (.int .i64 s.state) := cell_of_block (i := 1) g1b rfl
  have n1 : w1.cell? ⟨mb + 1, 1, none⟩ = some (.int .i64 s.state) := cell_of_block (i := 1) g2 rfl
  have m2 : w1.cell? ⟨mb, 2, none⟩ = some (.int .i64 s.epoch) := cell_of_block (i := 2) g1b rfl
  have n2 : w1.cell? ⟨mb + 1, 2, none⟩ = some (.int .i64 s.epoch) := cell_of_block (i := 2) g2 rfl
  have m3 : w1.cell? ⟨mb, 3, none⟩ = some (.int .i64 s.peer) := cell_of_block (i := 3) g1b rfl
  have n3 : w1.cell? ⟨mb + 1, 3, none⟩ = some (.int .i64 s.peer) := cell_of_block (i := 3) g2 rfl
  have m4 : w1.cell? ⟨mb, 4, none⟩ = some (.string s.letter) := cell_of_block (i := 4) g1b rfl
  have n4 : w1.cell? ⟨mb + 1, 4, none⟩ = some (.string s.letter) := cell_of_block (i := 4) g2 rfl
  have m5 : w1.cell? ⟨mb, 5, none⟩ = some (.slice p5 A c5) := cell_of_block (i := 5) g1b rfl
  have n5 : w1.cell? ⟨mb + 1, 5, none⟩ = some (.slice q5 A d5) := cell_of_block (i := 5) g2 rfl
  have m6 : w1.cell? ⟨mb, 6, none⟩ = some (.slice p6 B c6) := cell_of_block (i := 6) g1b rfl
  have n6 : w1.cell? ⟨mb + 1, 6, none⟩ = some (.slice q6 B d6) := cell_of_block (i := 6) g2 rfl
  have m7 : w1.cell? ⟨mb, 7, none⟩ = some (.slice p7 C c7) := cell_of_block (i := 7) g1b rfl
  have n7 : w1.cell? ⟨mb + 1, 7, none⟩ = some (.slice q7 C d7) := cell_of_block (i := 7) g2 rfl
  clear g1b g2 hc
  have e1 : (s.page.toList == s.page.toList) = true := by simp
  have e2 : (s.letter.toList == s.letter.toList) = true := by simp
  go_wp2_with fail
  go_loopw [5] (fun s5 wr => ∃ k : Nat, k ≤ A ∧ s5 = .int .i64 k ∧ Hid (Chg (fun _ => False) w1 wr)) (fun s5 _ => A - (intOf s5).toNat)
  case atStart => exact ⟨0, Nat.zero_le _, rfl, Lib.hid (Chg.refl _ _)⟩
  case round =>
    obtain ⟨k, hk, rfl, HR⟩ := hrel
    have k0 : (0 : Int) ≤ (k : Int) := Int.natCast_nonneg _
    clear m0 m1 m2 m3 m4 m5 m6 m7 n0 n1 n2 n3 n4 n5 n6 n7
    have ma := HR.out.cell (cell_of_block (i := 5) G1.out rfl)
    have mb2 := HR.out.cell (cell_of_block (i := 5) G2.out rfl)
    by_cases hlt : k < A
    · have k1 : (k : Int) < (A : Int) := by omega
      have hkl : k < s.parts.length := by rw [HA.out]; exact hlt
      have hs := H5.out
      have ht := K5.out
      rw [show A = (s.parts.map Value.string).length by rw [List.length_map, HA.out]] at hs ht
      obtain ⟨ga, oa, rfl, ca⟩ := hs.ptr (HC.out.trans' HR.out) (k := k) (u := Value.string s.parts[k]) (by rw [List.getElem?_map, List.getElem?_eq_getElem hkl]; rfl)
      obtain ⟨gb, ob, rfl, cb⟩ := ht.ptr (HC.out.trans' HR.out) (k := k) (u := Value.string s.parts[k]) (by rw [List.getElem?_map, List.getElem?_eq_getElem hkl]; rfl)
      have l1 := Later.cell ca
      have l2 := Later.cell cb
      have l3 := Later.cell ma
      have l4 := Later.cell mb2
      generalize s.parts[k] = d at *
      have e3 : (d.toList == d.toList) = true := by simp
      have HLT := Lib.hid hlt
      clear hs ht ca cb hlt hk
      go_upto_region 6 with fail
      clear ma mb2
      refine wp_region_later (by kernel_rfl) (by kernel_rfl) ?_
      repeat (go_big_quiet_step (fail))
      refine wpQuiet_nil ?_
      rintro _ ⟨x, rfl⟩
      have HR2 := Lib.hid (HR.out.trans' x.chg)
      clear l1 l2 l3 l4
      generalize x.at_ = w2 at *
      go_wp2_with fail
      go_roundw
      case rel => exact ⟨k + 1, HLT.out, by go_num, HR2⟩
      case measure => have := HLT.out; simp [intOf]; omega
    · have hkN : k = A := by omega
      subst hkN
      clear hlt hk k0
      go_wp2_with fail
      clear ma mb2
      go_loopw [6] (fun s6 wr => ∃ k : Nat, k ≤ B ∧ s6 = .int .i64 k ∧ Hid (Chg (fun _ => False) w1 wr)) (fun s6 _ => B - (intOf s6).toNat)
      case atStart => exact ⟨0, Nat.zero_le _, rfl, HR⟩
      case round =>
        clear HR; obtain ⟨k, hk, rfl, HR⟩ := hrel
        have k0 : (0 : Int) ≤ (k : Int) := Int.natCast_nonneg _
        have ma := HR.out.cell (cell_of_block (i := 6) G1.out rfl)
        have mb2 := HR.out.cell (cell_of_block (i := 6) G2.out rfl)
        by_cases hlt : k < B
        · have k1 : (k : Int) < (B : Int) := by omega
          have hkl : k < s.have_.length := by rw [HB.out]; exact hlt
          have hs := H6.out
          have ht := K6.out
          rw [show B = (s.have_.map Value.bool).length by rw [List.length_map, HB.out]] at hs ht
          obtain ⟨ga, oa, rfl, ca⟩ := hs.ptr (HC.out.trans' HR.out) (k := k) (u := Value.bool s.have_[k]) (by rw [List.getElem?_map, List.getElem?_eq_getElem hkl]; rfl)
          obtain ⟨gb, ob, rfl, cb⟩ := ht.ptr (HC.out.trans' HR.out) (k := k) (u := Value.bool s.have_[k]) (by rw [List.getElem?_map, List.getElem?_eq_getElem hkl]; rfl)
          have l1 := Later.cell ca
          have l2 := Later.cell cb
          have l3 := Later.cell ma
          have l4 := Later.cell mb2
          generalize s.have_[k] = d at *
          have e3 : (d == d) = true := by simp
          have HLT := Lib.hid hlt
          clear hs ht ca cb hlt hk
          go_upto_region 11 with fail
          clear ma mb2
          refine wp_region_later (by kernel_rfl) (by kernel_rfl) ?_
          repeat (go_big_quiet_step (fail))
          refine wpQuiet_nil ?_
          rintro _ ⟨x, rfl⟩
          have HR2 := Lib.hid (HR.out.trans' x.chg)
          clear l1 l2 l3 l4
          generalize x.at_ = w2 at *
          go_wp2_with fail
          go_roundw
          case rel => exact ⟨k + 1, HLT.out, by go_num, HR2⟩
          case measure => have := HLT.out; simp [intOf]; omega
        · have hkN : k = B := by omega
          subst hkN
          clear hlt hk k0
          go_wp2_with fail
          clear ma mb2
          go_loopw [7] (fun s7 wr => ∃ k : Nat, k ≤ C ∧ s7 = .int .i64 k ∧ Hid (Chg (fun _ => False) w1 wr)) (fun s7 _ => C - (intOf s7).toNat)
          case atStart => exact ⟨0, Nat.zero_le _, rfl, HR⟩
          case round =>
            clear HR; obtain ⟨k, hk, rfl, HR⟩ := hrel
            have k0 : (0 : Int) ≤ (k : Int) := Int.natCast_nonneg _
            have ma := HR.out.cell (cell_of_block (i := 7) G1.out rfl)
            have mb2 := HR.out.cell (cell_of_block (i := 7) G2.out rfl)
            by_cases hlt : k < C
            · have k1 : (k : Int) < (C : Int) := by omega
              have hkl : k < s.refuses.length := by rw [HCC.out]; exact hlt
              have hs := H7.out
              have ht := K7.out
              rw [show C = (s.refuses.map (Value.int .i64)).length by rw [List.length_map, HCC.out]] at hs ht
              obtain ⟨ga, oa, rfl, ca⟩ := hs.ptr (HC.out.trans' HR.out) (k := k) (u := (Value.int .i64) s.refuses[k]) (by rw [List.getElem?_map, List.getElem?_eq_getElem hkl]; rfl)
              obtain ⟨gb, ob, rfl, cb⟩ := ht.ptr (HC.out.trans' HR.out) (k := k) (u := (Value.int .i64) s.refuses[k]) (by rw [List.getElem?_map, List.getElem?_eq_getElem hkl]; rfl)
              have l1 := Later.cell ca
              have l2 := Later.cell cb
              have l3 := Later.cell ma
              have l4 := Later.cell mb2
              generalize s.refuses[k] = d at *
              have e3 : (d == d) = true := by simp
              have HLT := Lib.hid hlt
              clear hs ht ca cb hlt hk
              go_upto_region 16 with fail
              clear ma mb2
              refine wp_region_later (by kernel_rfl) (by kernel_rfl) ?_
              repeat (go_big_quiet_step (fail))
              refine wpQuiet_nil ?_
              rintro _ ⟨x, rfl⟩
              have HR2 := Lib.hid (HR.out.trans' x.chg)
              clear l1 l2 l3 l4
              generalize x.at_ = w2 at *
              go_wp2_with fail
              go_roundw
              case rel => exact ⟨k + 1, HLT.out, by go_num, HR2⟩
              case measure => have := HLT.out; simp [intOf]; omega
            · have hkN : k = C := by omega
              subst hkN
              clear hlt hk k0
              go_wp2_with fail
              clear ma mb2
              go_ret
              exact ⟨rfl, HC.out.trans' HR.out⟩
end Go.Proofs.Ytkoopagjjmdodaa
