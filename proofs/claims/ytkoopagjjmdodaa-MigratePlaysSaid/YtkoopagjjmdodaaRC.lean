/-
  The reference of layer 54: Tick.
  The reference of layer 54: store.
  What the reference's Receive does, plainly: the same as the program's.
-/
import Derived.Test.YtkoopagjjmdodaaRA
import Derived.Test.YtkoopagjjmdodaaMrj
import Derived.Test.YtkoopagjjmdodaaMri
namespace Go.Proofs.Ytkoopagjjmdodaa
open Go.RowKit
set_option linter.unusedVariables false
set_option linter.unusedSimpArgs false

/-- A machine that sends, beside a copy of a seat. -/
structure TL (w1 wr : World) (b o : Nat) (F : List Nat) (h : Host) (out : List Msg) (sb : Nat) (ob : Obj) : Prop where
  ex : ∃ F', Here hostR wr b o { h with out := out } F' ∧ Step w1 wr b o 3 F F' ∧ sb ∉ F'
  ne : sb ≠ b
  blk : wr.heap[sb]? = some ob
theorem TL.put {w1 wr : World} {b o : Nat} {F : List Nat} {h : Host} {out : List Msg} {sb : Nat} {ob : Obj} (T : TL w1 wr b o F h out sb ob) : ∃ G, Here outR wr b (o + 2) out G ∧ wr.cell? ⟨b, o, none⟩ = some (.int .i64 h.id) ∧ ∀ w' out', PutPost wr b o out' G w' → TL w1 w' b o F h out' sb ob := by
  obtain ⟨F', H, S, hs⟩ := T.ex
  obtain ⟨vs, vo, c0, -⟩ := hostCells H
  obtain ⟨G, HO, hout⟩ := hostOut H
  refine ⟨G, HO, c0, fun w' out' hp => ?_⟩
  obtain ⟨F2, H2, S2⟩ := (hout w' out' hp).1
  refine ⟨⟨F2, H2, S.trans S2, fun hx => ?_⟩, T.ne, S2.chg.keep T.blk (fun x => x.elim T.ne hs)⟩
  rcases S2.new sb hx with x | x
  · exact hs x
  · have := lt_of_block T.blk; omega
theorem TL.drew {w1 wr : World} {b o : Nat} {F : List Nat} {h : Host} {out : List Msg} {sb : Nat} {ob : Obj} (T : TL w1 wr b o F h out sb ob) : TL w1 wr.drew b o F h out sb ob := by
  obtain ⟨F', H, S, hs⟩ := T.ex
  exact ⟨⟨F', H.drew, S.drewR, hs⟩, T.ne, T.blk⟩
theorem missing_more (l : List Bool) (q : Nat) (h : 16 ≤ (missing (l.take q) 0).length) : (missing l 0).take 16 = (missing (l.take q) 0).take 16 := by
  have hap : ∀ (a b : List Bool) (n : Nat), missing (a ++ b) n = missing a n ++ missing b (n + a.length) := by
    intro a
    induction a with
    | nil => intro b n; rfl
    | cons x a ih =>
      intro b n
      cases x with
      | true => rw [List.cons_append, missing, missing, ih, List.length_cons, show n + 1 + a.length = n + (a.length + 1) by omega]
      | false => rw [List.cons_append, missing, missing, ih, List.length_cons, show n + 1 + a.length = n + (a.length + 1) by omega, List.cons_append]
  have e : missing l 0 = missing (l.take q) 0 ++ missing (l.drop q) (0 + (l.take q).length) := by rw [← hap, List.take_append_drop]
  rw [e, List.take_append_of_le_length h]
/-- What lies behind a seat is not what is sent. -/
theorem host_apart {w : World} {b o : Nat} {h : Host} {F : List Nat} {g off n cap i : Nat} {Go : List Nat} (H : Here hostR w b o h F) (hv : w.cell? ⟨b, o + 1, none⟩ = some (.slice (some ⟨g, off, none⟩) n cap)) (HO : Here outR w b (o + 2) h.out Go) (hi : i < h.seats.length) :
    ∃ G, Here seatR w g (off + i * 8) h.seats[i] G ∧ ∀ x ∈ G, x ∉ Go ∧ x ≠ b := by
  obtain ⟨vs, vo, c0, c1, c2, F1, F2, h1, h2, hF⟩ := hostCells H
  rw [hv] at c1
  cases c1
  obtain ⟨v, xs, Fs, d2, hopen⟩ := HO.openRow
  rw [c2] at d2
  cases d2
  obtain ⟨-, -, r3⟩ := hopen.flat
  obtain ⟨v', e1, -, e3⟩ := row_flat.1 h2
  cases e1
  have hnd := H.nd
  have hnb := H.nb
  rw [hF, List.nodup_append] at hnd
  rw [hF, List.mem_append] at hnb
  obtain ⟨c, T, hb, -⟩ := H.box
  have hrow : Here seatsR w b (o + 1) h.seats F1 := by
    refine ⟨⟨c, T, hb, ?_⟩, fun x => hnb (.inl x), hnd.1⟩
    have hc : c[o + 1]? = some (.slice (some ⟨g, off, none⟩) n cap) := by
      simpa [World.cell?, hb] using hv
    have e : (c.toList.drop (o + 1)).take 1 = [.slice (some ⟨g, off, none⟩) n cap] := by
      have hs : o + 1 < c.size := by
        rcases Nat.lt_or_ge (o + 1) c.size with x | x
        · exact x
        · rw [Array.getElem?_eq_none x] at hc; cases hc
      rw [List.drop_eq_getElem_cons (by simpa using hs)]
      have : c[o + 1] = .slice (some ⟨g, off, none⟩) n cap := by
        rw [Array.getElem?_eq_getElem hs] at hc; exact Option.some.inj hc
      simp [this]
    show seatsR.own w ((c.toList.drop (o + 1)).take 1) h.seats F1
    rw [e]
    exact h1
  obtain ⟨g', off', cap', q1, _, _, q4, q5, q6⟩ := hrow.elem (by omega)
  rw [q1] at hv
  simp only [Option.some.injEq, Value.slice.injEq, Addr.mk.injEq, and_true] at hv
  obtain ⟨⟨rfl, rfl⟩, rfl, rfl⟩ := hv
  obtain ⟨G, r1, r2, r3'⟩ := q6 i hi
  refine ⟨G, r1, fun x hx => ⟨fun hg => hnd.2.2 x (r2 x hx) x ?_ rfl, fun e => hnb (.inl (e ▸ r2 x hx))⟩⟩
  rw [e3, ← r3]
  exact hg
set_option maxHeartbeats 6400000 in
set_option maxRecDepth 100000 in
theorem rtick_any (w : World) (b o : Nat) (h : Host) (F : List Nat) (H : Here hostR w b o h F) (hk : HostOk h) (hlo : h.out.length + h.seats.length * 16 < 1000000000) :
    Calls Try.prog 27 #[.pointer (some ⟨b, o, none⟩)] w fun e w' => e = .returned (.tuple #[]) ∧ HostPost w b o (tickM h) F w' := by
  have hln : (h.seats.length : Int) ≤ 1000000000 := by have := hk.seats.lt; omega
  have HK := Lib.hid hk
  have HLO := Lib.hid hlo
  have HI0 : TInv w w b o F h (h.out ++ (h.seats.take 0).flatMap (tickS h.id)) := ⟨F, by simpa using H, Step.refl _ _ _ _ _⟩
  clear hk hlo H
  go_enter Try.func27, Try.ntmps27
  go_wp2_with fail
  go_loopw [2] (fun u wr => ∃ k : Nat, k ≤ h.seats.length ∧ u = .int .i64 k ∧ TInv w wr b o F h (h.out ++ (h.seats.take k).flatMap (tickS h.id))) (fun u _ => h.seats.length - (intOf u).toNat)
  case atStart => exact ⟨0, Nat.zero_le _, rfl, HI0⟩
  case round =>
    obtain ⟨k, hkl, rfl, HI⟩ := hrel
    have k0 : (0 : Int) ≤ (k : Int) := Int.natCast_nonneg _
    clear HI0
    obtain ⟨F', Hr, Sr⟩ := HI.ex
    obtain ⟨vs, vo, -, c1, -, F1, F2, hs, -⟩ := hostCells Hr
    obtain ⟨xs, Fs, hopen⟩ := Rep.opened hs
    obtain ⟨p, cap, rfl, hle, hcap⟩ := hopen.val
    clear hs hopen hle hcap
    change wr.cell? ⟨b, o + 1, none⟩ = some (.slice p h.seats.length cap) at c1
    by_cases hlt : k < h.seats.length
    · have k1 : (k : Int) < (h.seats.length : Int) := by omega
      obtain ⟨g, off, cp, hv⟩ := hostRow Hr (by show 0 < h.seats.length; omega)
      change wr.cell? ⟨b, o + 1, none⟩ = some (.slice (some ⟨g, off, none⟩) h.seats.length cp) at hv
      rw [c1] at hv
      cases hv
      obtain ⟨Go, HO, hpo⟩ := hostOut Hr
      change Here outR wr b (o + 2) (h.out ++ (h.seats.take k).flatMap (tickS h.id)) Go at HO
      obtain ⟨G, HS, hap⟩ := host_apart Hr c1 HO hlt
      change Here seatR wr g (off + k * 8) h.seats[k] G at HS
      have htt := tick_take h.id h.seats k hlt
      have hfl : ((h.seats.take k).flatMap (tickS h.id)).length ≤ k * 16 := by
        have := tick_len h.id (h.seats.take k)
        rw [List.length_take] at this
        have h2 : min k h.seats.length * 16 ≤ k * 16 := Nat.mul_le_mul_right _ (Nat.min_le_left ..)
        omega
      have HFO : Hid ((h.out ++ (h.seats.take k).flatMap (tickS h.id)).length + 16 < 1000000000) := Lib.hid (by rw [List.length_append]; have := HLO.out; omega)
      have HLE := Lib.hid (HK.out.each _ (List.getElem_mem hlt)).2.2.2
      have HSO := Lib.hid (HK.out.each _ (List.getElem_mem hlt)).1
      have HTT := Lib.hid htt
      have HLT := Lib.hid hlt
      obtain ⟨cb, Tb, v5, v6, v7, hblk, hsz, hown, q0, q1, q2, q3, q4, q5, q6, q7⟩ := seatBlock HS
      obtain ⟨v5', v6', v7', F5, F6, F7, he, k5, k6, k7, hG⟩ := id hown
      have HAP := Lib.hid (fun x (hx : x ∈ F6) => hap x (by rw [hG]; simp [hx]))
      cases he
      obtain ⟨xs5, Fs5, op5⟩ := Rep.opened k5
      obtain ⟨a5, c5, rfl, -, -⟩ := op5.val
      have hseen := seen_flat k6
      obtain ⟨a6, c6, he6, -, -, -⟩ := id hseen
      rw [List.length_map] at he6
      subst he6
      obtain ⟨xs7, Fs7, op7⟩ := Rep.opened k7
      obtain ⟨a7, c7, rfl, -, -⟩ := op7.val
      have s0 := cell_of_block hblk q0
      have s1 := cell_of_block hblk q1
      have s2 := cell_of_block hblk q2
      have s3 := cell_of_block hblk q3
      have s4 := cell_of_block hblk q4
      have s5 := cell_of_block hblk q5
      have s6 := cell_of_block hblk q6
      have s7 := cell_of_block hblk q7
      have HSEEN := Lib.hid hseen
      have HHR := Lib.hid Hr
      have HSR := Lib.hid Sr
      have HHO := Lib.hid HO
      have HPO := Lib.hid hpo
      have HK6 := Lib.hid k6
      have hblt := Hr.lt
      clear htt hfl HI Hr Sr HS hkl hblk hsz hown q0 q1 q2 q3 q4 q5 q6 q7 k5 k6 k7 op5 op7 hseen HO hpo hap hG
      generalize hy : h.seats[k] = y at *
      have HY := Lib.hid hy
      clear hy
      generalize hout : h.out ++ (h.seats.take k).flatMap (tickS h.id) = out at *
      have HOUT := Lib.hid hout
      clear hout
      go_upto_region 4 with fail
      have g1 := alloc_block wr (.cells #[.string y.page, .int .i64 y.state, .int .i64 y.epoch, .int .i64 y.peer, .string y.letter, .slice a5 y.parts.length c5, .slice a6 y.have_.length c6, .slice a7 y.refuses.length c7] 67)
      have hc1 := Chg.alloc (fun _ => False) wr (.cells #[.string y.page, .int .i64 y.state, .int .i64 y.epoch, .int .i64 y.peer, .string y.letter, .slice a5 y.parts.length c5, .slice a6 y.have_.length c6, .slice a7 y.refuses.length c7] 67)
      generalize hsb : wr.heap.size = sb at *
      generalize wr.alloc (.cells #[.string y.page, .int .i64 y.state, .int .i64 y.epoch, .int .i64 y.peer, .string y.letter, .slice a5 y.parts.length c5, .slice a6 y.have_.length c6, .slice a7 y.refuses.length c7] 67) = w1 at *
      have T1 : TL w1 w1 b o F' h out sb (.cells #[.string y.page, .int .i64 y.state, .int .i64 y.epoch, .int .i64 y.peer, .string y.letter, .slice a5 y.parts.length c5, .slice a6 y.have_.length c6, .slice a7 y.refuses.length c7] 67 (0, 0)) := ⟨⟨F', HHR.out.still hc1, Step.refl _ _ _ _ _, fun hx => by have := hblt.2 sb hx; omega⟩, by omega, g1⟩
      have m0 : w1.cell? ⟨sb, 0, none⟩ = some (.string y.page) := cell_of_block (i := 0) g1 rfl
      have m1 : w1.cell? ⟨sb, 1, none⟩ = some (.int .i64 y.state) := cell_of_block (i := 1) g1 rfl
      have m2 : w1.cell? ⟨sb, 2, none⟩ = some (.int .i64 y.epoch) := cell_of_block (i := 2) g1 rfl
      have m3 : w1.cell? ⟨sb, 3, none⟩ = some (.int .i64 y.peer) := cell_of_block (i := 3) g1 rfl
      have m4 : w1.cell? ⟨sb, 4, none⟩ = some (.string y.letter) := cell_of_block (i := 4) g1 rfl
      have m5 : w1.cell? ⟨sb, 5, none⟩ = some (.slice a5 y.parts.length c5) := cell_of_block (i := 5) g1 rfl
      have m6 : w1.cell? ⟨sb, 6, none⟩ = some (.slice a6 y.have_.length c6) := cell_of_block (i := 6) g1 rfl
      have m7 : w1.cell? ⟨sb, 7, none⟩ = some (.slice a7 y.refuses.length c7) := cell_of_block (i := 7) g1 rfl
      have HT1 := Lib.hid T1
      have HC1 := Lib.hid hc1
      have HG1 := Lib.hid g1
      -- what is left when the seat's messages are sent
      have hend : ∀ w2, TL w1 w2 b o F' h (out ++ tickS h.id y) sb (.cells #[.string y.page, .int .i64 y.state, .int .i64 y.epoch, .int .i64 y.peer, .string y.letter, .slice a5 y.parts.length c5, .slice a6 y.have_.length c6, .slice a7 y.refuses.length c7] 67 (0, 0)) → TInv w w2 b o F h (h.out ++ (h.seats.take (k + 1)).flatMap (tickS h.id)) := fun w2 T => by
        obtain ⟨F2, H2, S2, -⟩ := T.ex
        rw [HTT.out, ← List.append_assoc, HOUT.out]
        exact ⟨F2, H2, (HSR.out.trans (Step.ofChg HC1.out)).trans S2⟩
      have HEND := Lib.hid hend
      have HEND0 : Hid (∀ w2, HostPost wr b o { { h with out := out } with out := out ++ tickS h.id y } F' w2 → TInv w w2 b o F h (h.out ++ (h.seats.take (k + 1)).flatMap (tickS h.id))) := Lib.hid (fun w2 hp => by
        obtain ⟨F2, H2, S2⟩ := hp
        rw [HTT.out, ← List.append_assoc, HOUT.out]
        exact ⟨F2, H2, HSR.out.trans S2⟩)
      clear s0 s1 s2 s3 s4 s5 s6 s7 T1 hc1 g1 hend hblt c1
      by_cases y2 : y.state = 2
      · have hM : tickS h.id y = [offerMsg h.id y (partsL y.letter).length] := by unfold tickS; rw [if_pos y2]
        have HM := Lib.hid hM
        have hb2 : (y.state == 2) = true := by simpa using y2
        obtain ⟨Go, HO, d0, hput⟩ := HT1.out.put
        have hof := roffer_any w1 b o h.id out Go y a5 a6 a7 y.parts.length y.have_.length y.refuses.length c5 c6 c7 d0 HO ⟨by have := HFO.out; omega⟩ (by have := HLE.out.lt; omega)
        have HOF := Lib.hid hof
        have HPT := Lib.hid hput
        clear y2 hM HO d0 hput hof
        go_wp2_with fail
        refine HOF.out.mono ?_
        rintro e w2 ⟨rfl, hp⟩
        have hI := HEND.out w2 (by rw [HM.out]; exact HPT.out _ _ hp)
        have HI2 := Lib.hid hI
        clear hp hI m0 m1 m2 m3 m4 m5 m6 m7
        go_wp2_with fail
        go_roundw
        case rel => exact ⟨k + 1, HLT.out, by go_num, HI2.out⟩
        case measure => have := HLT.out; simp [intOf]; omega
      · have hb2 : (y.state == 2) = false := by simpa using y2
        by_cases y3 : y.state = 3
        · have hM : tickS h.id y = [cancelMsg h.id y] := by unfold tickS; rw [if_neg y2, if_pos y3]
          have HM := Lib.hid hM
          have hb3 : (y.state == 3) = true := by simpa using y3
          obtain ⟨Go, HO, d0, hput⟩ := HT1.out.put
          have hof := rsay_any w1 b o h.id out Go 5 y.peer y.epoch y.page d0 HO ⟨by have := HFO.out; omega⟩
          have HOF := Lib.hid hof
          have HPT := Lib.hid hput
          clear y2 y3 hM HO d0 hput hof
          go_wp2_with fail
          refine HOF.out.mono ?_
          rintro e w2 ⟨rfl, hp⟩
          have hI := HEND.out w2 (by rw [HM.out]; exact HPT.out _ _ hp)
          have HI2 := Lib.hid hI
          clear hp hI m0 m1 m2 m3 m4 m5 m6 m7
          go_wp2_with fail
          go_roundw
          case rel => exact ⟨k + 1, HLT.out, by go_num, HI2.out⟩
          case measure => have := HLT.out; simp [intOf]; omega
        · have hb3 : (y.state == 3) = false := by simpa using y3
          by_cases y4 : y.state = 4
          · have hM : tickS h.id y = ((missing y.have_ 0).take 16).map (needMsg h.id y) := by unfold tickS; rw [if_neg y2, if_neg y3, if_pos y4]
            have HM := Lib.hid hM
            have hb4 : (y.state == 4) = true := by simpa using y4
            have hhl : (y.have_.length : Int) ≤ 20000 := by have := HSO.out.same; have := HSO.out.few; omega
            clear y2 y3 y4 hM
            go_wp2_with fail
            clear m0 m1 m2 m3 m4 m5 m6 m7
            have hsbG : sb ∉ Go := fun hx => by have := HHO.out.lt.2 sb hx; omega
            have hsbb : sb ≠ b := HT1.out.ne
            have hd0 : w1.cell? ⟨b, o, none⟩ = some (.int .i64 h.id) := by
              obtain ⟨vs, vo, c0, -⟩ := hostCells HHR.out
              exact HC1.out.cell c0
            have HD0 := Lib.hid hd0
            have HO1 := Lib.hid (HHO.out.still HC1.out)
            have HK61 := Lib.hid (((Rep.bool).row 4).chg HK6.out HC1.out (fun _ _ x => x))
            clear hd0
            go_loopw [4, 5] (fun u4 u5 wq => ∃ (q nn : Nat), q ≤ y.have_.length ∧ u5 = .int .i64 q ∧ u4 = .int .i64 nn ∧ nn ≤ 16 ∧ Hid (nn = (missing (y.have_.take q) 0).length) ∧ Hid (PutPost w1 b o (out ++ (missing (y.have_.take q) 0).map (needMsg h.id y)) Go wq)) (fun _ u5 _ => y.have_.length - (intOf u5).toNat)
            case atStart => exact ⟨0, 0, Nat.zero_le _, rfl, rfl, by omega, rfl, by simpa [missing] using ⟨Go, HO1.out, Step.refl _ _ _ _ _⟩⟩
            case round =>
              obtain ⟨q, nn, hq, rfl, rfl, hn16, HNN, HT⟩ := hrel
              obtain ⟨Gq, Hq, Sq⟩ := HT.out
              have gq := Sq.chg.keep HG1.out (fun x => x.elim hsbb hsbG)
              have m0 : wr.cell? ⟨sb, 0, none⟩ = some (.string y.page) := cell_of_block (i := 0) gq rfl
              have m2 : wr.cell? ⟨sb, 2, none⟩ = some (.int .i64 y.epoch) := cell_of_block (i := 2) gq rfl
              have m3 : wr.cell? ⟨sb, 3, none⟩ = some (.int .i64 y.peer) := cell_of_block (i := 3) gq rfl
              have m6 : wr.cell? ⟨sb, 6, none⟩ = some (.slice a6 y.have_.length c6) := cell_of_block (i := 6) gq rfl
              have d0 := Sq.cell HD0.out HO1.out.nb (fun _ => by omega) HO1.out.boxed
              have q0 : (0 : Int) ≤ (q : Int) := Int.natCast_nonneg _
              have n0 : (0 : Int) ≤ (nn : Int) := Int.natCast_nonneg _
              have K6q := ((Rep.bool).row 4).chg HK61.out Sq.chg (fun x hx h => h.elim (HAP.out x hx).2 (HAP.out x hx).1)
              have hseen := seen_flat K6q
              have HGQ := Lib.hid gq
              have HHQ := Lib.hid Hq
              have HSQ := Lib.hid Sq
              have HD0q := Lib.hid d0
              clear gq Hq Sq K6q d0
              by_cases hql : q < y.have_.length
              · by_cases hnn : nn < 16
                · have q1 : (q : Int) < (y.have_.length : Int) := by omega
                  have n1 : (nn : Int) < 16 := by omega
                  rw [show y.have_.length = (y.have_.map Value.bool).length by rw [List.length_map]] at hseen
                  obtain ⟨gh, oh, rfl, hcell⟩ := hseen.ptr (Chg.refl _ _) (k := q) (u := .bool y.have_[q]) (by rw [List.getElem?_map, List.getElem?_eq_getElem hql]; rfl)
                  have hmt := missing_take y.have_ q hql
                  have HQL := Lib.hid hql
                  obtain ⟨bv, hx⟩ : ∃ bv, y.have_[q]'hql = bv := ⟨_, rfl⟩
                  rw [hx] at hmt hcell
                  have HMT := Lib.hid hmt
                  clear hmt hseen hx
                  cases bv with
                  | true =>
                    have hstep : (missing (y.have_.take (q + 1)) 0) = missing (y.have_.take q) 0 := by rw [HMT.out, if_pos rfl, List.append_nil]
                    have HSTEP := Lib.hid hstep
                    clear hstep
                    go_wp2_with fail
                    go_roundw
                    case rel => exact ⟨q + 1, nn, HQL.out, by go_num, rfl, hn16, by rw [HSTEP.out]; exact HNN, by rw [HSTEP.out]; exact HT⟩
                    case measure => have := HQL.out; simp [intOf]; omega
                  | false =>
                    have hstep : (missing (y.have_.take (q + 1)) 0) = missing (y.have_.take q) 0 ++ [q] := by rw [HMT.out, if_neg (by decide)]
                    have HSTEP := Lib.hid hstep
                    have hfo : Few (out ++ (missing (y.have_.take q) 0).map (needMsg h.id y)).length := by
                      refine ⟨?_⟩
                      rw [List.length_append, List.length_map, ← HNN.out]
                      have := HFO.out
                      omega
                    have HFO2 := Lib.hid hfo
                    clear hstep hfo
                    go_wp2_with fail
                    refine (rsay_any wr b o h.id _ Gq 3 y.peer y.epoch y.page HD0q.out HHQ.out HFO2.out).mono ?_
                    rintro e w2 ⟨rfl, G2, H2, S2⟩
                    generalize hoq : out ++ (missing (y.have_.take q) 0).map (needMsg h.id y) = oq at *
                    have HOQ := Lib.hid hoq
                    obtain ⟨gm, off2, cap2, c2, hgb, hgG, Ge, HE, -, hback⟩ := lastMsg H2
                    have fz := HE.frozen (off2 + oq.length * 8 + 5)
                    obtain ⟨G6, HE6, S6⟩ := HE.setField msgR_index (y := (q : Int)) (v := .int .i64 (q : Int)) rfl
                    have k6 := Here.cells (cs := []) HE 5 _ rfl
                    obtain ⟨G7, H7, S7⟩ := hback _ _ _ HE6 S6
                    have HH7 := Lib.hid H7.drew
                    have HS7 := Lib.hid ((HSQ.out.trans (S2.trans S7)).drewR)
                    have c2d : w2.drew.cell? ⟨b, o + 2, none⟩ = some (.slice (some ⟨gm, off2, none⟩) (oq.length + 1) cap2) := c2
                    have k6d : w2.drew.cell? ⟨gm, off2 + oq.length * 8 + 5, none⟩ = some (.int .i64 0) := k6
                    have fzd : w2.drew.frozen? ⟨gm, off2 + oq.length * 8 + 5, none⟩ = false := fz
                    have hol : (oq.length : Int) < 1000000000 := by have := HFO2.out.lt; omega
                    have wj : IntKind.i64.wrap (oq.length : Int) = (oq.length : Int) := IntWalk.i64_in _ (by omega)
                    have o0 : (0 : Int) ≤ (oq.length : Int) := Int.natCast_nonneg _
                    have o1 : (oq.length : Int) < (oq.length : Int) + 1 := by omega
                    clear hoq m0 m2 m3 m6 HE6 S6 hback HE H7 S7 H2 S2 c2 k6 fz hcell
                    go_wp2_with fail
                    go_region_law (fail)
                    all_goals (
                      go_wp2_with fail
                      go_roundw)
                    case rel => exact ⟨q + 1, nn + 1, HQL.out, by go_num, by go_num, by omega, Lib.hid (by rw [HSTEP.out, List.length_append, List.length_singleton, ← HNN.out]), Lib.hid (by rw [HSTEP.out, List.map_append, ← List.append_assoc, HOQ.out]; exact ⟨G7, HH7.out, HS7.out⟩)⟩
                    case measure => have := HQL.out; simp [intOf]; omega
                    case rel => exact ⟨q + 1, nn + 1, HQL.out, by go_num, by go_num, by omega, Lib.hid (by rw [HSTEP.out, List.length_append, List.length_singleton, ← HNN.out]), Lib.hid (by rw [HSTEP.out, List.map_append, ← List.append_assoc, HOQ.out]; exact ⟨G7, HH7.out, HS7.out⟩)⟩
                    case measure => have := HQL.out; simp [intOf]; omega
                · have hn : nn = 16 := by omega
                  subst hn
                  have q1 : (q : Int) < (y.have_.length : Int) := by omega
                  have hI : TInv w wr b o F h (h.out ++ (h.seats.take (k + 1)).flatMap (tickS h.id)) := by
                    refine HEND0.out wr (HPO.out wr _ ?_).1
                    rw [HM.out, missing_more _ _ (by rw [← HNN.out]; omega), List.take_of_length_le (by rw [← HNN.out]; omega)]
                    exact PutPost.pre HC1.out HT.out
                  have HI2 := Lib.hid hI
                  clear hI hseen
                  go_wp2_with fail
                  go_roundw
                  case rel => exact ⟨k + 1, HLT.out, by go_num, HI2.out⟩
                  case measure => have := HLT.out; simp [intOf]; omega
              · obtain rfl : q = y.have_.length := by omega
                have hI : TInv w wr b o F h (h.out ++ (h.seats.take (k + 1)).flatMap (tickS h.id)) := by
                  refine HEND0.out wr (HPO.out wr _ ?_).1
                  have hT := HT.out
                  have hN := HNN.out
                  rw [List.take_length] at hT hN
                  rw [HM.out, List.take_of_length_le (by omega)]
                  exact PutPost.pre HC1.out hT
                have HI2 := Lib.hid hI
                clear hI hseen
                go_wp2_with fail
                go_roundw
                case rel => exact ⟨k + 1, HLT.out, by go_num, HI2.out⟩
                case measure => have := HLT.out; simp [intOf]; omega
          · have hM : tickS h.id y = [] := by unfold tickS; rw [if_neg y2, if_neg y3, if_neg y4]
            have HM := Lib.hid hM
            have hb4 : (y.state == 4) = false := by simpa using y4
            have hI := HEND.out w1 (by rw [HM.out, List.append_nil]; exact HT1.out)
            have HI2 := Lib.hid hI
            clear y2 y3 y4 hM hI
            go_wp2_with fail
            go_roundw
            case rel => exact ⟨k + 1, HLT.out, by go_num, HI2.out⟩
            case measure => have := HLT.out; simp [intOf]; omega
    · have hkN : k = h.seats.length := by omega
      subst hkN
      have HQ := Lib.hid HI
      rw [List.take_length] at HQ
      clear hlt hkl HI Hr Sr
      go_wp2_with fail
      go_end0
      obtain ⟨F2, H2, S2⟩ := HQ.out.ex
      exact ⟨rfl, F2, H2, S2⟩
end Go.Proofs.Ytkoopagjjmdodaa
namespace Go.Proofs.Ytkoopagjjmdodaa
open Go.RowKit
set_option linter.unusedVariables false
set_option linter.unusedSimpArgs false

/-- A struct of eight cells stored at the head of its block. -/
theorem top8 {w : World} {b T : Nat} {c : Array Value} (h : w.heap[b]? = some (.cells c T (0, 0))) (hc : c.size = 8) (v0 v1 v2 v3 v4 v5 v6 v7 : Value) :
    ((((((((w.setCell ⟨b, 0, none⟩ v0).setCell ⟨b, 1, none⟩ v1).setCell ⟨b, 2, none⟩ v2).setCell ⟨b, 3, none⟩ v3).setCell ⟨b, 4, none⟩ v4).setCell ⟨b, 5, none⟩ v5).setCell ⟨b, 6, none⟩ v6).setCell ⟨b, 7, none⟩ v7).heap[b]? = some (.cells #[v0, v1, v2, v3, v4, v5, v6, v7] T (0, 0)) ∧
    Chg (· = b) w ((((((((w.setCell ⟨b, 0, none⟩ v0).setCell ⟨b, 1, none⟩ v1).setCell ⟨b, 2, none⟩ v2).setCell ⟨b, 3, none⟩ v3).setCell ⟨b, 4, none⟩ v4).setCell ⟨b, 5, none⟩ v5).setCell ⟨b, 6, none⟩ v6).setCell ⟨b, 7, none⟩ v7) := by
  refine ⟨?_, (((((((Chg.setCell w ⟨b, 0, none⟩ v0).trans' (Chg.setCell _ ⟨b, 1, none⟩ v1)).trans' (Chg.setCell _ ⟨b, 2, none⟩ v2)).trans' (Chg.setCell _ ⟨b, 3, none⟩ v3)).trans' (Chg.setCell _ ⟨b, 4, none⟩ v4)).trans' (Chg.setCell _ ⟨b, 5, none⟩ v5)).trans' (Chg.setCell _ ⟨b, 6, none⟩ v6)).trans' (Chg.setCell _ ⟨b, 7, none⟩ v7)⟩
  rw [setCell_block v7 (setCell_block v6 (setCell_block v5 (setCell_block v4 (setCell_block v3 (setCell_block v2 (setCell_block v1 (setCell_block v0 h)))))))]
  obtain ⟨l⟩ := c
  match l, hc with
  | [_, _, _, _, _, _, _, _], _ => simp
theorem elem_bool : Elem Try.prog 4 1 1 := elem_of (by kernel_rfl)
theorem str_ones (l : List ByteArray) : Ones (l.map Value.string) := fun u hu => by
  obtain ⟨x, -, rfl⟩ := List.mem_map.1 hu; rfl
theorem bool_ones (l : List Bool) : Ones (l.map Value.bool) := fun u hu => by
  obtain ⟨x, -, rfl⟩ := List.mem_map.1 hu; rfl
/-- A seat with a part. -/
def storeS (s : Seat) (m : Msg) : Seat := if s.have_.getD m.index.toNat true = false then gotS s m else s
def doneS (s : Seat) : Seat := ⟨s.page, 1, s.epoch, 0, joinL s.parts, [], [], s.refuses⟩
/-- The cells of a seat. -/
def seatV (s : Seat) (v5 v6 v7 : Value) : Array Value := #[.string s.page, .int .i64 s.state, .int .i64 s.epoch, .int .i64 s.peer, .string s.letter, v5, v6, v7]
theorem joinL_snoc (l : List ByteArray) (x : ByteArray) : joinL (l ++ [x]) = joinL l ++ x := by
  unfold joinL
  rw [join_nil, join_nil, List.map_append, List.flatten_append]
  apply ByteArray.ext
  simp
/-- Three blocks made. -/
theorem three (w : World) (A B C : Obj) : (((w.alloc A).alloc B).alloc C).heap[w.heap.size]? = some A ∧ (((w.alloc A).alloc B).alloc C).heap[w.heap.size + 1]? = some B ∧ (((w.alloc A).alloc B).alloc C).heap[w.heap.size + 1 + 1]? = some C ∧ Chg (fun _ => False) w (((w.alloc A).alloc B).alloc C) ∧ (((w.alloc A).alloc B).alloc C).heap.size = w.heap.size + 1 + 1 + 1 := by
  have e1 : (w.alloc A).heap.size = w.heap.size + 1 := by simp
  have e2 : ((w.alloc A).alloc B).heap.size = w.heap.size + 1 + 1 := by simp
  refine ⟨alloc_old _ (alloc_old _ (alloc_block w A)), ?_, ?_, ((Chg.alloc _ w A).allocR B).allocR C, by simp⟩
  · have := alloc_old C (alloc_block (w.alloc A) B)
    rw [e1] at this; exact this
  · have := alloc_block ((w.alloc A).alloc B) C
    rw [e2] at this; exact this
/-- The end of store: the seat that it returns. -/
theorem store_end {w' : World} {rb : Nat} {a : Act} {v : Array Value} {R : Ending → World → Prop} (hv : v.size = 8) (hb : w'.heap[rb]? = some (.cells v 67 (0, 0))) (h6 : a.tmps[6]? = some (.pointer (some ⟨rb, 0, none⟩))) (hd : a.defers = []) (hR : R (.returned (.agg v)) w') :
    bodyPost Try.prog Try.f55 R .ret a w' := by
  refine bodyPost_ret (v := .agg v) ?_ hd hR
  obtain ⟨l⟩ := v
  match l, hv with
  | [v0, v1, v2, v3, v4, v5, v6, v7], _ =>
    have c0 := cell_of_block (i := 0) hb rfl
    have c1 := cell_of_block (i := 1) hb rfl
    have c2 := cell_of_block (i := 2) hb rfl
    have c3 := cell_of_block (i := 3) hb rfl
    have c4 := cell_of_block (i := 4) hb rfl
    have c5 := cell_of_block (i := 5) hb rfl
    have c6 := cell_of_block (i := 6) hb rfl
    have c7 := cell_of_block (i := 7) hb rfl
    simp [results, Try.results55, go_sem, h6, c0, c1, c2, c3, c4, c5, c6, c7]
set_option maxHeartbeats 1600000 in
set_option maxRecDepth 100000 in
theorem rstore_offer (w : World) (b o : Nat) (s : Seat) (m : Msg) (hk : m.kind = 1) (a5 a6 a7 : Option Addr) (n5 n6 n7 c5 c6 c7 : Nat) :
    Calls Try.prog 55 #[.pointer (some ⟨b, o, none⟩), .agg #[.string s.page, .int .i64 s.state, .int .i64 s.epoch, .int .i64 s.peer, .string s.letter, .slice a5 n5 c5, .slice a6 n6 c6, .slice a7 n7 c7], .agg #[.int .i64 m.kind, .int .i64 m.frm, .int .i64 m.dst, .string m.page, .int .i64 m.epoch, .int .i64 m.index, .int .i64 m.count, .string m.data]] w fun e w' => e = .returned (.agg (seatV s (.slice a5 n5 c5) (.slice a6 n6 c6) (.slice a7 n7 c7))) ∧ Chg (fun _ => False) w w' := by
  have hkb : (m.kind == 1) = true := by simpa using hk
  obtain ⟨g1, g2, g3, hc1, hs1⟩ := three w (.cells #[.string s.page, .int .i64 s.state, .int .i64 s.epoch, .int .i64 s.peer, .string s.letter, .slice a5 n5 c5, .slice a6 n6 c6, .slice a7 n7 c7] 67) (.cells #[.int .i64 m.kind, .int .i64 m.frm, .int .i64 m.dst, .string m.page, .int .i64 m.epoch, .int .i64 m.index, .int .i64 m.count, .string m.data] 39) (.cells #[.string ⟨#[]⟩, .int .i64 0, .int .i64 0, .int .i64 0, .string ⟨#[]⟩, .slice none 0 0, .slice none 0 0, .slice none 0 0] 67)
  clear hk
  go_enter Try.func55, Try.ntmps55
  go_upto_region 2 with fail
  generalize ((w.alloc (.cells #[.string s.page, .int .i64 s.state, .int .i64 s.epoch, .int .i64 s.peer, .string s.letter, .slice a5 n5 c5, .slice a6 n6 c6, .slice a7 n7 c7] 67)).alloc (.cells #[.int .i64 m.kind, .int .i64 m.frm, .int .i64 m.dst, .string m.page, .int .i64 m.epoch, .int .i64 m.index, .int .i64 m.count, .string m.data] 39)).alloc (.cells #[.string ⟨#[]⟩, .int .i64 0, .int .i64 0, .int .i64 0, .string ⟨#[]⟩, .slice none 0 0, .slice none 0 0, .slice none 0 0] 67) = w1 at *
  obtain ⟨hbt, hct⟩ := top8 g3 rfl (.string s.page) (.int .i64 s.state) (.int .i64 s.epoch) (.int .i64 s.peer) (.string s.letter) (.slice a5 n5 c5) (.slice a6 n6 c6) (.slice a7 n7 c7)
  have HBT := Lib.hid hbt
  have HCT := Lib.hid (hc1.fresh hct (fun i hi => by omega))
  have m0 : w1.cell? ⟨w.heap.size, 0, none⟩ = some (.string s.page) := cell_of_block (i := 0) g1 rfl
  have m1 : w1.cell? ⟨w.heap.size, 1, none⟩ = some (.int .i64 s.state) := cell_of_block (i := 1) g1 rfl
  have m2 : w1.cell? ⟨w.heap.size, 2, none⟩ = some (.int .i64 s.epoch) := cell_of_block (i := 2) g1 rfl
  have m3 : w1.cell? ⟨w.heap.size, 3, none⟩ = some (.int .i64 s.peer) := cell_of_block (i := 3) g1 rfl
  have m4 : w1.cell? ⟨w.heap.size, 4, none⟩ = some (.string s.letter) := cell_of_block (i := 4) g1 rfl
  have m5 : w1.cell? ⟨w.heap.size, 5, none⟩ = some (.slice a5 n5 c5) := cell_of_block (i := 5) g1 rfl
  have m6 : w1.cell? ⟨w.heap.size, 6, none⟩ = some (.slice a6 n6 c6) := cell_of_block (i := 6) g1 rfl
  have m7 : w1.cell? ⟨w.heap.size, 7, none⟩ = some (.slice a7 n7 c7) := cell_of_block (i := 7) g1 rfl
  obtain ⟨z0, y0, z1, y1, z2, y2, z3, y3, z4, y4, z5, y5, z6, y6, z7, y7, -⟩ := store8 (so := 0) g3 (.string s.page) (.int .i64 s.state) (.int .i64 s.epoch) (.int .i64 s.peer) (.string s.letter) (.slice a5 n5 c5) (.slice a6 n6 c6) (.slice a7 n7 c7) ⟨rfl, rfl, rfl, rfl, rfl, rfl, rfl, rfl⟩
  simp only [drew_cell, drew_frozen, Nat.zero_add] at z0 y0 z1 y1 z2 y2 z3 y3 z4 y4 z5 y5 z6 y6 z7 y7
  clear g1 g2 g3 hc1 hbt hct hkb
  go_wp2_with fail
  exact store_end rfl HBT.out rfl rfl ⟨rfl, HCT.out⟩
/-- A new block changed behind what was sent. -/
theorem put_past {w wr w9 W : World} {b o r : Nat} {out : List Msg} {G G9 : List Nat} (hc : Chg (fun _ => False) w wr) (H9 : Here outR w9 b (o + 2) out G9) (S9 : Step wr w9 b (o + 2) 1 G G9) (hch : Chg (· = r) w9 W) (hr : w.heap.size ≤ r) (hlt : r < wr.heap.size) (hb : b < w.heap.size) (hG : ∀ x ∈ G, x < w.heap.size) : PutPost w b o out G W := by
  have S := (Step.ofChg hc).trans S9
  have hn : r ∉ G9 := fun hx => by
    rcases S9.new r hx with x | x
    · have := hG r x; omega
    · omega
  refine ⟨G9, H9.chg hch (by show ¬ b = r; omega) (fun x hx e => hn (by have e' : x = r := e; rwa [e'] at hx)), ⟨S.chg.trans hch (fun _ _ x => x) (fun i hi x => by have x' : i = r := x; omega), S.new, fun c T h => ?_⟩⟩
  obtain ⟨c', h1, h2, h3⟩ := S.rest c T h
  exact ⟨c', hch.keep h1 (by omega), h2, h3⟩
/-- Behind the part that is stored. -/
structure StRel (w : World) (s : Seat) (m : Msg) (a7 : Option Addr) (n7 c7 : Nat) (wx : World) (g5 o5 c5 g6 o6 c6 : Nat) : Prop where
  box : wx.heap[w.heap.size]? = some (.cells #[.string s.page, .int .i64 s.state, .int .i64 s.epoch, .int .i64 s.peer, .string s.letter, .slice (some ⟨g5, o5, none⟩) s.parts.length c5, .slice (some ⟨g6, o6, none⟩) s.have_.length c6, .slice a7 n7 c7] 67 (0, 0))
  msg : wx.heap[w.heap.size + 1]? = some (.cells #[.int .i64 m.kind, .int .i64 m.frm, .int .i64 m.dst, .string m.page, .int .i64 m.epoch, .int .i64 m.index, .int .i64 m.count, .string m.data] 39 (0, 0))
  res : wx.heap[w.heap.size + 1 + 1]? = some (.cells #[.string ⟨#[]⟩, .int .i64 0, .int .i64 0, .int .i64 0, .string ⟨#[]⟩, .slice none 0 0, .slice none 0 0, .slice none 0 0] 67 (0, 0))
  row5 : RowAt wx 9 1 (.slice (some ⟨g5, o5, none⟩) s.parts.length c5) s.parts.length ((storeS s m).parts.map Value.string)
  row6 : RowAt wx 4 1 (.slice (some ⟨g6, o6, none⟩) s.have_.length c6) s.have_.length ((storeS s m).have_.map Value.bool)
  lo5 : w.heap.size + 1 + 1 < g5
  lo6 : w.heap.size + 1 + 1 < g6
  ne : g5 ≠ g6
  chg : Chg (fun _ => False) w wx
/-- What store returns. -/
def StoreRes (w : World) (b o : Nat) (id : Int) (out : List Msg) (G : List Nat) (s : Seat) (m : Msg) (v7 : Value) (e : Ending) (w' : World) : Prop :=
  ((storeS s m).have_.contains false = true ∧ ∃ v5 v6, e = .returned (.agg (seatV (storeS s m) v5 v6 v7)) ∧ RowAt w' 9 1 v5 (storeS s m).parts.length ((storeS s m).parts.map Value.string) ∧ RowAt w' 4 1 v6 (storeS s m).have_.length ((storeS s m).have_.map Value.bool) ∧
    (∀ k, v5.ownBlock = some k → w.heap.size ≤ k) ∧ (∀ k, v6.ownBlock = some k → w.heap.size ≤ k) ∧ (∀ k, v5.ownBlock = some k → ¬ v6.ownBlock = some k) ∧ Chg (fun _ => False) w w') ∨
  ((storeS s m).have_.contains false = false ∧ e = .returned (.agg (seatV (doneS (storeS s m)) (.slice none 0 0) (.slice none 0 0) v7)) ∧ PutPost w b o (out ++ [⟨4, id, m.frm, m.page, m.epoch, 0, 0, ⟨#[]⟩⟩]) G w')
theorem storeS_len (s : Seat) (m : Msg) : (storeS s m).parts.length = s.parts.length ∧ (storeS s m).have_.length = s.have_.length ∧ (storeS s m).page = s.page ∧ (storeS s m).state = s.state ∧ (storeS s m).epoch = s.epoch ∧ (storeS s m).peer = s.peer ∧ (storeS s m).letter = s.letter ∧ (storeS s m).refuses = s.refuses := by
  unfold storeS
  split
  · exact ⟨List.length_set, List.length_set, rfl, rfl, rfl, rfl, rfl, rfl⟩
  · exact ⟨rfl, rfl, rfl, rfl, rfl, rfl, rfl, rfl⟩
set_option maxHeartbeats 3200000 in
set_option maxRecDepth 100000 in
theorem rstore_part (w : World) (b o : Nat) (id : Int) (out : List Msg) (G : List Nat) (s : Seat) (m : Msg) (hk : m.kind ≠ 1) (hi : 0 ≤ m.index ∧ m.index < (s.parts.length : Int)) (hok : SeatOk s) (hd : m.data.size ≤ 1000) (a5 a6 a7 : Option Addr) (c5 c6 n7 c7 : Nat) (hid : w.cell? ⟨b, o, none⟩ = some (.int .i64 id)) (HO : Here outR w b (o + 2) out G) (hl : Few out.length)
    (h5 : RowAt w 9 1 (.slice a5 s.parts.length c5) s.parts.length (s.parts.map Value.string)) (h6 : RowAt w 4 1 (.slice a6 s.have_.length c6) s.have_.length (s.have_.map Value.bool)) :
    Calls Try.prog 55 #[.pointer (some ⟨b, o, none⟩), .agg #[.string s.page, .int .i64 s.state, .int .i64 s.epoch, .int .i64 s.peer, .string s.letter, .slice a5 s.parts.length c5, .slice a6 s.have_.length c6, .slice a7 n7 c7], .agg #[.int .i64 m.kind, .int .i64 m.frm, .int .i64 m.dst, .string m.page, .int .i64 m.epoch, .int .i64 m.index, .int .i64 m.count, .string m.data]] w fun e w' => StoreRes w b o id out G s m (.slice a7 n7 c7) e w' := by
  have hkb : (m.kind == 1) = false := by simpa using hk
  have HOK := Lib.hid hok
  have HI := Lib.hid hi
  have HD := Lib.hid hd
  have HID := Lib.hid hid
  have HHO := Lib.hid HO
  have HL := Lib.hid hl
  have HK := Lib.hid hk
  have hl5 : (s.parts.length : Int) ≤ 20000 := by have := hok.few; omega
  have hl6 : (s.have_.length : Int) ≤ 20000 := by have := hok.few; have := hok.same; omega
  obtain ⟨g1, g2, g3, hc1, hs1⟩ := three w (.cells #[.string s.page, .int .i64 s.state, .int .i64 s.epoch, .int .i64 s.peer, .string s.letter, .slice a5 s.parts.length c5, .slice a6 s.have_.length c6, .slice a7 n7 c7] 67) (.cells #[.int .i64 m.kind, .int .i64 m.frm, .int .i64 m.dst, .string m.page, .int .i64 m.epoch, .int .i64 m.index, .int .i64 m.count, .string m.data] 39) (.cells #[.string ⟨#[]⟩, .int .i64 0, .int .i64 0, .int .i64 0, .string ⟨#[]⟩, .slice none 0 0, .slice none 0 0, .slice none 0 0] 67)
  have HZ : Hid (∃ n, n = w.heap.size) := Lib.hid ⟨_, rfl⟩
  clear hk hi hok hd hid HO hl
  go_enter Try.func55, Try.ntmps55
  go_upto_region 1 with fail
  generalize ((w.alloc (.cells #[.string s.page, .int .i64 s.state, .int .i64 s.epoch, .int .i64 s.peer, .string s.letter, .slice a5 s.parts.length c5, .slice a6 s.have_.length c6, .slice a7 n7 c7] 67)).alloc (.cells #[.int .i64 m.kind, .int .i64 m.frm, .int .i64 m.dst, .string m.page, .int .i64 m.epoch, .int .i64 m.index, .int .i64 m.count, .string m.data] 39)).alloc (.cells #[.string ⟨#[]⟩, .int .i64 0, .int .i64 0, .int .i64 0, .string ⟨#[]⟩, .slice none 0 0, .slice none 0 0, .slice none 0 0] 67) = w1 at *
  have HG1 := Lib.hid g1
  have HG2 := Lib.hid g2
  have HG3 := Lib.hid g3
  have HC1 := Lib.hid hc1
  have HS1 := Lib.hid hs1
  have HR5 := Lib.hid (h5.chg hc1 (fun _ _ x => x))
  have HR6 := Lib.hid h6
  have HES := Lib.hid elem_str
  have HEB := Lib.hid elem_bool
  have HL5 := Lib.hid hl5
  have HL6 := Lib.hid hl6
  have mk : w1.cell? ⟨w.heap.size + 1, 0, none⟩ = some (.int .i64 m.kind) := cell_of_block (i := 0) g2 rfl
  have m5 : (w1.alloc (.cells #[] 9)).cell? ⟨w.heap.size, 5, none⟩ = some (.slice a5 s.parts.length c5) := cell_of_block (i := 5) (alloc_old _ g1) rfl
  clear g1 g2 g3 hc1 hs1 h5 h6 HZ
  go_upto_region 3 with fail
  clear mk hkb
  have hA : RowAt (w1.alloc (.cells #[] 9)) 9 1 (.slice (some ⟨w1.heap.size, 0, none⟩) 0 0) 0 [] := RowAt.fresh w1 _ 1 _ rfl
  have HA := Lib.hid hA
  have HCA := Lib.hid (HC1.out.allocR (.cells #[] 9))
  have hHG : Hid (∀ w2, Chg (fun _ => False) w1 w2 → w2.heap[w.heap.size]? = some (.cells #[.string s.page, .int .i64 s.state, .int .i64 s.epoch, .int .i64 s.peer, .string s.letter, .slice a5 s.parts.length c5, .slice a6 s.have_.length c6, .slice a7 n7 c7] 67 (0, 0))) := Lib.hid (fun w2 h => h.keep HG1.out (fun x => x))
  clear hA
  go_upto_region 4 with (first
    | (at_builtin; refine list_append_rows rfl (.tmp 13) (.tmp 15) 63 rfl 9 1 16 Try.underlying63 HES.out (by decide) _ 0 [] (by rfl) HA.out _ s.parts.length (s.parts.map Value.string) (by rfl) (HR5.out.alloc _) (str_ones _) (by have := HL5.out; unfold maxLen; omega) (by have := HL5.out; omega) ?_; intro a2 n2 c2 w2 hrow2 hch2 hold2; have hcw := (Chg.alloc (fun _ => False) w1 (.cells #[] 9)).fresh hch2 (own_at (Nat.le_refl w1.heap.size)); have hb2 := hHG.out w2 hcw; have c25 := cell_of_block (i := 5) hb2 rfl; have f25 := frozen_of_block (i := 5) hb2; have HB2 := Lib.hid hb2; have HW2 := Lib.hid hcw; have HR2 := Lib.hid hrow2; have HN2 := Lib.hid (own_ge hold2 (own_at (Nat.le_refl w1.heap.size)) (Chg.alloc (fun _ => False) w1 (.cells #[] 9)).size); clear hrow2 hch2 hold2 hcw hb2))
  obtain ⟨a2', c2', he2, -, -⟩ := HR2.out.slice
  rw [Nat.zero_add] at he2
  cases he2
  have hs3 : w1.heap.size ≤ w2.heap.size := HW2.out.size
  have hsz1 := HS1.out
  have hb3 := setCell_block (i := 5) (.slice a2 s.parts.length c2) HB2.out
  have hset3 := Chg.setCell w2 ⟨w.heap.size, 5, none⟩ (.slice a2 s.parts.length c2)
  have hm3 := hset3.keep (HW2.out.keep HG2.out (fun x => x)) (by show ¬ w.heap.size + 1 = w.heap.size; omega)
  have hr3 := hset3.keep (HW2.out.keep HG3.out (fun x => x)) (by show ¬ w.heap.size + 1 + 1 = w.heap.size; omega)
  have hrow3 := HR2.out.chg hset3 (fun k hk e => by have := HN2.out k hk; have e' : k = w.heap.size := e; omega)
  have hc3 : Chg (fun _ => False) w (w2.setCell ⟨w.heap.size, 5, none⟩ (.slice a2 s.parts.length c2)) := (HC1.out.trans' HW2.out).setCellR _ _ (fun x => by simp at x)
  have hs4 : (w2.setCell ⟨w.heap.size, 5, none⟩ (.slice a2 s.parts.length c2)).heap.size = w2.heap.size := by simp
  generalize hw3 : w2.setCell ⟨w.heap.size, 5, none⟩ (.slice a2 s.parts.length c2) = w3 at *
  change w3.heap[w.heap.size]? = some (.cells #[.string s.page, .int .i64 s.state, .int .i64 s.epoch, .int .i64 s.peer, .string s.letter, .slice a2 s.parts.length c2, .slice a6 s.have_.length c6, .slice a7 n7 c7] _ _) at hb3
  rw [Nat.zero_add, List.nil_append] at hrow3
  have HB3 := Lib.hid hb3
  have HM3 := Lib.hid hm3
  have HQ3 := Lib.hid hr3
  have HROW3 := Lib.hid hrow3
  have HC3 := Lib.hid hc3
  have HS3 : Hid (w1.heap.size ≤ w3.heap.size) := Lib.hid (by omega)
  have m6 : (w3.alloc (.cells #[] 4)).cell? ⟨w.heap.size, 6, none⟩ = some (.slice a6 s.have_.length c6) := cell_of_block (i := 6) (alloc_old _ hb3) rfl
  have HHG3 : Hid (∀ w4, Chg (fun _ => False) w3 w4 → w4.heap[w.heap.size]? = some (.cells #[.string s.page, .int .i64 s.state, .int .i64 s.epoch, .int .i64 s.peer, .string s.letter, .slice a2 s.parts.length c2, .slice a6 s.have_.length c6, .slice a7 n7 c7] 67 (0, 0))) := Lib.hid (fun w2 h => h.keep HB3.out (fun x => x))
  have HA3 := Lib.hid (RowAt.fresh w3 4 1 4 rfl)
  clear hb3 hm3 hr3 hrow3 hc3 hs3 hs4 hset3 hw3 m5 c25 f25 hHG HB2 HG1 HCA HA HR2 HW2 hsz1
  go_upto_region 5 with (first
    | (at_builtin; refine list_append_rows rfl (.tmp 18) (.tmp 20) 64 rfl 4 1 1 Try.underlying64 HEB.out (by decide) _ 0 [] (by rfl) HA3.out _ s.have_.length (s.have_.map Value.bool) (by rfl) ((HR6.out.chg HC3.out (fun _ _ x => x)).alloc _) (bool_ones _) (by have := HL6.out; unfold maxLen; omega) (by have := HL6.out; omega) ?_; intro a4 n4 c4 w4 hrow4 hch4 hold4; have hcw := (Chg.alloc (fun _ => False) w3 (.cells #[] 4)).fresh hch4 (own_at (Nat.le_refl w3.heap.size)); have hb4 := HHG3.out w4 hcw; have c46 := cell_of_block (i := 6) hb4 rfl; have f46 := frozen_of_block (i := 6) hb4; have HB4 := Lib.hid hb4; have HW4 := Lib.hid hcw; have HR4 := Lib.hid hrow4; have HN4 := Lib.hid (own_ge hold4 (own_at (Nat.le_refl w3.heap.size)) (Chg.alloc (fun _ => False) w3 (.cells #[] 4)).size); clear hrow4 hch4 hold4 hcw hb4))
  obtain ⟨a4', c4', he4, -, -⟩ := HR4.out.slice
  rw [Nat.zero_add] at he4
  cases he4
  have hsz1 := HS1.out
  have hsz3 := HS3.out
  have hs3 : w3.heap.size ≤ w4.heap.size := HW4.out.size
  have hb5 := setCell_block (i := 6) (.slice a4 s.have_.length c4) HB4.out
  have hset5 := Chg.setCell w4 ⟨w.heap.size, 6, none⟩ (.slice a4 s.have_.length c4)
  have hm5 := hset5.keep (HW4.out.keep HM3.out (fun x => x)) (by show ¬ w.heap.size + 1 = w.heap.size; omega)
  have hr5 := hset5.keep (HW4.out.keep HQ3.out (fun x => x)) (by show ¬ w.heap.size + 1 + 1 = w.heap.size; omega)
  have hrow6 := HR4.out.chg hset5 (fun k hk e => by have := HN4.out k hk; have e' : k = w.heap.size := e; omega)
  have hrow5 := (HROW3.out.chg HW4.out (fun _ _ x => x)).chg hset5 (fun k hk e => by have := HN2.out k hk; have e' : k = w.heap.size := e; omega)
  have hc5 : Chg (fun _ => False) w (w4.setCell ⟨w.heap.size, 6, none⟩ (.slice a4 s.have_.length c4)) := (HC3.out.trans' HW4.out).setCellR _ _ (fun x => by simp at x)
  have hlt5 : ∀ k, (Value.slice a2 s.parts.length c2).ownBlock = some k → k < w3.heap.size := HROW3.out.lt
  generalize hw5 : w4.setCell ⟨w.heap.size, 6, none⟩ (.slice a4 s.have_.length c4) = w5 at *
  change w5.heap[w.heap.size]? = some (.cells #[.string s.page, .int .i64 s.state, .int .i64 s.epoch, .int .i64 s.peer, .string s.letter, .slice a2 s.parts.length c2, .slice a4 s.have_.length c4, .slice a7 n7 c7] _ _) at hb5
  rw [Nat.zero_add, List.nil_append] at hrow6
  have hpos5 : 0 < s.parts.length := by have := HI.out; omega
  have hpos6 : 0 < s.have_.length := by have := HOK.out.same; omega
  obtain ⟨g5, o5, c5', he5, -, -⟩ := hrow5.addr hpos5
  cases he5
  obtain ⟨g6, o6, c6', he6, -, -⟩ := hrow6.addr hpos6
  cases he6
  have hn5 : w1.heap.size ≤ g5 := HN2.out g5 rfl
  have hn6 : w3.heap.size ≤ g6 := HN4.out g6 rfl
  have hl5 : g5 < w3.heap.size := hlt5 g5 rfl
  have hxl : m.index.toNat < s.parts.length := by have := HI.out; omega
  have hxl6 : m.index.toNat < s.have_.length := by have := HOK.out.same; omega
  have x0 : 0 ≤ m.index := HI.out.1
  have x1 : m.index < (s.parts.length : Int) := HI.out.2
  have x2 : m.index < (s.have_.length : Int) := by omega
  have hcell : w5.cell? ⟨g6, o6 + m.index.toNat, none⟩ = some (.bool (s.have_[m.index.toNat]'hxl6)) := hrow6.cellAt _ _ (by rw [List.getElem?_map, List.getElem?_eq_getElem hxl6]; rfl)
  have hcell5 : w5.cell? ⟨g5, o5 + m.index.toNat, none⟩ = some (.string (s.parts[m.index.toNat]'hxl)) := hrow5.cellAt _ _ (by rw [List.getElem?_map, List.getElem?_eq_getElem hxl]; rfl)
  have n5 : w5.cell? ⟨w.heap.size, 5, none⟩ = some (.slice (some ⟨g5, o5, none⟩) s.parts.length c2) := cell_of_block (i := 5) hb5 rfl
  have n6 : w5.cell? ⟨w.heap.size, 6, none⟩ = some (.slice (some ⟨g6, o6, none⟩) s.have_.length c4) := cell_of_block (i := 6) hb5 rfl
  have k5 : w5.cell? ⟨w.heap.size + 1, 5, none⟩ = some (.int .i64 m.index) := cell_of_block (i := 5) hm5 rfl
  have k7 : w5.cell? ⟨w.heap.size + 1, 7, none⟩ = some (.string m.data) := cell_of_block (i := 7) hm5 rfl
  obtain ⟨hv, hhv⟩ : ∃ hv, s.have_[m.index.toNat]'hxl6 = hv := ⟨_, rfl⟩
  rw [hhv] at hcell
  have hgd : s.have_.getD m.index.toNat true = hv := by rw [List.getD_eq_getElem?_getD, List.getElem?_eq_getElem hxl6, ← hhv]; rfl
  have HGD := Lib.hid hgd
  have HB5 := Lib.hid hb5
  have HM5 := Lib.hid hm5
  have HQ5 := Lib.hid hr5
  have HROW5 := Lib.hid hrow5
  have HROW6 := Lib.hid hrow6
  have HC5 := Lib.hid hc5
  have HG5 : Hid (w.heap.size + 1 + 1 < g5 ∧ w.heap.size + 1 + 1 < g6 ∧ g5 ≠ g6) := Lib.hid ⟨by omega, by omega, by omega⟩
  have fz6 := hrow6.frozenAt m.index.toNat
  have HF5 := Lib.hid (hrow5.frozenAt m.index.toNat)
  have HX := Lib.hid hxl
  have HX6 := Lib.hid hxl6
  clear hb5 hm5 hr5 hrow5 hrow6 hc5 hset5 hs3 hsz1 hsz3 hlt5 hw5 hn5 hn6 hl5 m6 c46 f46 HB4 HR4 HW4 HN4 HN2 HROW3 HC3 HS3 HHG3 HA3 HM3 HQ3 HB3 hgd hhv hpos5 hpos6 HG2 HG3
  go_upto_if 29 with fail
  go_cut [] (fun wx => ∃ g5 o5 c5 g6 o6 c6, StRel w s m a7 n7 c7 wx g5 o5 c5 g6 o6 c6)
  case first =>
    cases hv with
    | true =>
      go_wp2_with fail
      go_meet
      have hS : storeS s m = s := by unfold storeS; rw [if_neg (by rw [HGD.out]; decide)]
      exact ⟨g5, o5, c2, g6, o6, c4, HB5.out, HM5.out, HQ5.out, by rw [hS]; exact HROW5.out, by rw [hS]; exact HROW6.out, HG5.out.1, HG5.out.2.1, HG5.out.2.2, HC5.out⟩
    | false =>
      have hset6 := Chg.setCell w5 ⟨g6, o6 + m.index.toNat, none⟩ (.bool true)
      have hg := HG5.out
      have j5 := hset6.cellNo n5 (by show w.heap.size ≠ g6; omega)
      have jk5 := hset6.cellNo k5 (by show w.heap.size + 1 ≠ g6; omega)
      have jk7 := hset6.cellNo k7 (by show w.heap.size + 1 ≠ g6; omega)
      have jc5 := hset6.cellNo hcell5 (by show g5 ≠ g6; omega)
      have hr5 := HROW5.out.chg hset6 (fun k hk e => by
        have e1 : some g5 = some k := hk
        have e2 : k = g6 := e
        cases e1
        omega)
      have fz5 := hr5.frozenAt m.index.toNat
      have HR5b := Lib.hid hr5
      clear hr5 hset6 hg
      go_wp2_with fail
      go_meet
      have hg := HG5.out
      have hS : storeS s m = gotS s m := by unfold storeS; rw [if_pos HGD.out]
      have hset6 := Chg.setCell w5 ⟨g6, o6 + m.index.toNat, none⟩ (.bool true)
      have hset7 := Chg.setCell (w5.setCell ⟨g6, o6 + m.index.toNat, none⟩ (.bool true)) ⟨g5, o5 + m.index.toNat, none⟩ (.string m.data)
      have hx6 : m.index.toNat < (s.have_.map Value.bool).length := by rw [List.length_map]; exact HX6.out
      have hx5 : m.index.toNat < (s.parts.map Value.string).length := by rw [List.length_map]; exact HX.out
      have hr6 := HROW6.out.store m.index.toNat hx6 (.bool true)
      have hr6b := hr6.chg hset7 (fun k hk e => by
        have e1 : some g6 = some k := hk
        have e2 : k = g5 := e
        cases e1
        omega)
      have hr5b := HR5b.out.store m.index.toNat hx5 (.string m.data)
      refine ⟨g5, o5, c2, g6, o6, c4, ?_, ?_, ?_, ?_, ?_, hg.1, hg.2.1, hg.2.2, ?_⟩
      · exact hset7.keep (hset6.keep HB5.out (by show ¬ w.heap.size = g6; omega)) (by show ¬ w.heap.size = g5; omega)
      · exact hset7.keep (hset6.keep HM5.out (by show ¬ w.heap.size + 1 = g6; omega)) (by show ¬ w.heap.size + 1 = g5; omega)
      · exact hset7.keep (hset6.keep HQ5.out (by show ¬ w.heap.size + 1 + 1 = g6; omega)) (by show ¬ w.heap.size + 1 + 1 = g5; omega)
      · rw [hS]
        show RowAt _ _ _ _ _ ((s.parts.set m.index.toNat m.data).map Value.string)
        rw [List.map_set]; exact hr5b
      · rw [hS]
        show RowAt _ _ _ _ _ ((s.have_.set m.index.toNat true).map Value.bool)
        rw [List.map_set]; exact hr6b
      · exact (HC5.out.setCellR _ _ (fun x => by have x' : g6 < w.heap.size := x; omega)).setCellR _ _ (fun x => by have x' : g5 < w.heap.size := x; omega)
  case rest =>
    clear hcell hcell5 n5 n6 k5 k7 fz6 HGD HB5 HM5 HQ5 HROW5 HROW6 HC5 HG5 HF5 HX HX6 hxl hxl6 x1 x2
    obtain ⟨g5, o5, c5, g6, o6, c6, R⟩ := hcut
    have HSL := Lib.hid (storeS_len s m)
    have n5 : wc.cell? ⟨w.heap.size, 5, none⟩ = some (.slice (some ⟨g5, o5, none⟩) s.parts.length c5) := cell_of_block (i := 5) R.box rfl
    have n6 : wc.cell? ⟨w.heap.size, 6, none⟩ = some (.slice (some ⟨g6, o6, none⟩) s.have_.length c6) := cell_of_block (i := 6) R.box rfl
    have HRR := Lib.hid R
    clear R
    go_wp2_with fail
    go_loopw [7, 8] (fun u7 u8 wr => ∃ k : Nat, k ≤ s.have_.length ∧ u8 = .int .i64 k ∧ u7 = .string (joinL ((storeS s m).parts.take k)) ∧ wr = wc ∧ Hid (∀ j : Nat, j < k → (storeS s m).have_[j]? = some true)) (fun _ u8 _ => s.have_.length - (intOf u8).toNat)
    case atStart => exact ⟨0, Nat.zero_le _, rfl, rfl, rfl, Lib.hid (fun j hj => by omega)⟩
    case round =>
      obtain ⟨k, hk, rfl, rfl, rfl, HT⟩ := hrel
      have k0 : (0 : Int) ≤ (k : Int) := Int.natCast_nonneg _
      by_cases hkl : k < s.have_.length
      · have k1 : (k : Int) < (s.have_.length : Int) := by omega
        have hk6 : k < (storeS s m).have_.length := by rw [HSL.out.2.1]; exact hkl
        have hk5 : k < (storeS s m).parts.length := by rw [HSL.out.1, ← HOK.out.same]; exact hkl
        have k2 : (k : Int) < (s.parts.length : Int) := by have := HOK.out.same; omega
        obtain ⟨hv, hhv⟩ : ∃ hv, (storeS s m).have_[k]'hk6 = hv := ⟨_, rfl⟩
        have hcell : wr.cell? ⟨g6, o6 + k, none⟩ = some (.bool hv) := HRR.out.row6.cellAt _ _ (by rw [List.getElem?_map, List.getElem?_eq_getElem hk6, hhv]; rfl)
        have hcell5 : wr.cell? ⟨g5, o5 + k, none⟩ = some (.string ((storeS s m).parts[k]'hk5)) := HRR.out.row5.cellAt _ _ (by rw [List.getElem?_map, List.getElem?_eq_getElem hk5]; rfl)
        have hsome : (storeS s m).have_[k]? = some hv := by rw [List.getElem?_eq_getElem hk6, hhv]
        have HSM := Lib.hid hsome
        have HKL := Lib.hid hkl
        have hjs : joinL ((storeS s m).parts.take (k + 1)) = joinL ((storeS s m).parts.take k) ++ (storeS s m).parts[k]'hk5 := by rw [List.take_succ_eq_append_getElem hk5, joinL_snoc]
        have HJS := Lib.hid hjs
        have hsm : ∀ p ∈ (storeS s m).parts, p.size ≤ 1000 := by
          intro p hp
          unfold storeS at hp
          split at hp
          · rcases List.mem_or_eq_of_mem_set hp with h | h
            · exact HOK.out.small p h
            · rw [h]; exact HD.out
          · exact HOK.out.small p hp
        have hz1 : (joinL ((storeS s m).parts.take k)).size ≤ 20000000 := by
          have h1 := joinL_size (l := (storeS s m).parts.take k) (fun p hp => hsm p (List.mem_of_mem_take hp))
          have h2 : ((storeS s m).parts.take k).length ≤ 20000 := by rw [List.length_take, HSL.out.1]; have := HOK.out.few; omega
          have h3 := Nat.mul_le_mul_right 1000 h2
          omega
        have hz2 : ((storeS s m).parts[k]'hk5).size ≤ 1000 := hsm _ (List.getElem_mem hk5)
        generalize hP : (storeS s m).parts[k]'hk5 = pk at *
        generalize hJ : joinL ((storeS s m).parts.take k) = jk at *
        have hz3 : ((jk.size : Int) + (pk.size : Int)) ≤ 9223372036854775807 := by omega
        have hz4 : jk.size + pk.size ≤ 9223372036854775807 := by omega
        clear hsome hjs hsm hz1 hz2 hhv hP hJ hkl
        cases hv with
        | true =>
          go_wp2_with fail
          go_roundw
          case rel => exact ⟨k + 1, HKL.out, by go_num, by rw [HJS.out], trivial, Lib.hid (fun j hj => by
            rcases Nat.lt_or_ge j k with h | h
            · exact HT.out j h
            · obtain rfl : j = k := by omega
              exact HSM.out)⟩
          case measure => have := HKL.out; simp [intOf]; omega
        | false =>
          have m0 : wr.cell? ⟨w.heap.size, 0, none⟩ = some (.string s.page) := cell_of_block (i := 0) HRR.out.box rfl
          have m1 : wr.cell? ⟨w.heap.size, 1, none⟩ = some (.int .i64 s.state) := cell_of_block (i := 1) HRR.out.box rfl
          have m2 : wr.cell? ⟨w.heap.size, 2, none⟩ = some (.int .i64 s.epoch) := cell_of_block (i := 2) HRR.out.box rfl
          have m3 : wr.cell? ⟨w.heap.size, 3, none⟩ = some (.int .i64 s.peer) := cell_of_block (i := 3) HRR.out.box rfl
          have m4 : wr.cell? ⟨w.heap.size, 4, none⟩ = some (.string s.letter) := cell_of_block (i := 4) HRR.out.box rfl
          have m7 : wr.cell? ⟨w.heap.size, 7, none⟩ = some (.slice a7 n7 c7) := cell_of_block (i := 7) HRR.out.box rfl
          obtain ⟨hbt, hct⟩ := top8 HRR.out.res rfl (.string s.page) (.int .i64 s.state) (.int .i64 s.epoch) (.int .i64 s.peer) (.string s.letter) (.slice (some ⟨g5, o5, none⟩) s.parts.length c5) (.slice (some ⟨g6, o6, none⟩) s.have_.length c6) (.slice a7 n7 c7)
          have HBT := Lib.hid hbt
          have HCT := Lib.hid hct
          obtain ⟨z0, y0, z1, y1, z2, y2, z3, y3, z4, y4, z5, y5, z6, y6, z7, y7, -⟩ := store8 (so := 0) HRR.out.res (.string s.page) (.int .i64 s.state) (.int .i64 s.epoch) (.int .i64 s.peer) (.string s.letter) (.slice (some ⟨g5, o5, none⟩) s.parts.length c5) (.slice (some ⟨g6, o6, none⟩) s.have_.length c6) (.slice a7 n7 c7) ⟨rfl, rfl, rfl, rfl, rfl, rfl, rfl, rfl⟩
          simp only [drew_cell, drew_frozen, Nat.zero_add] at z0 y0 z1 y1 z2 y2 z3 y3 z4 y4 z5 y5 z6 y6 z7 y7
          clear hbt hct
          go_wp2_with fail
          refine store_end rfl HBT.out rfl rfl (.inl ⟨?_, .slice (some ⟨g5, o5, none⟩) s.parts.length c5, .slice (some ⟨g6, o6, none⟩) s.have_.length c6, ?_, ?_, ?_, ?_, ?_, ?_, ?_⟩)
          · rw [List.contains_iff_mem]
            exact List.mem_of_getElem? HSM.out
          · unfold seatV
            rw [HSL.out.2.2.1, HSL.out.2.2.2.1, HSL.out.2.2.2.2.1, HSL.out.2.2.2.2.2.1, HSL.out.2.2.2.2.2.2.1]
          · rw [HSL.out.1]
            exact HRR.out.row5.chg HCT.out (fun k hk e => by
              have e1 : some g5 = some k := hk
              have e2 : k = w.heap.size + 1 + 1 := e
              cases e1
              have := HRR.out.lo5
              omega)
          · rw [HSL.out.2.1]
            exact HRR.out.row6.chg HCT.out (fun k hk e => by
              have e1 : some g6 = some k := hk
              have e2 : k = w.heap.size + 1 + 1 := e
              cases e1
              have := HRR.out.lo6
              omega)
          · exact own_at (by have := HRR.out.lo5; omega)
          · exact own_at (by have := HRR.out.lo6; omega)
          · exact own_ne HRR.out.ne
          · exact HRR.out.chg.fresh HCT.out (fun i hi => by omega)
      · obtain rfl : k = s.have_.length := by omega
        have hno : (storeS s m).have_.contains false = false := by
          cases hc : (storeS s m).have_.contains false with
          | false => rfl
          | true =>
            rw [List.contains_iff_mem] at hc
            obtain ⟨j, hj⟩ := List.mem_iff_getElem?.1 hc
            have hjl : j < s.have_.length := by
              rw [← HSL.out.2.1]
              exact (List.getElem?_eq_some_iff.1 hj).1
            rw [HT.out j hjl] at hj
            cases hj
        have hall : (storeS s m).parts.take s.have_.length = (storeS s m).parts := List.take_of_length_le (by rw [HSL.out.1, HOK.out.same]; exact Nat.le_refl _)
        rw [hall]
        have HNO := Lib.hid hno
        have k1 : wr.cell? ⟨w.heap.size + 1, 1, none⟩ = some (.int .i64 m.frm) := cell_of_block (i := 1) HRR.out.msg rfl
        have k3 : wr.cell? ⟨w.heap.size + 1, 3, none⟩ = some (.string m.page) := cell_of_block (i := 3) HRR.out.msg rfl
        have k4 : wr.cell? ⟨w.heap.size + 1, 4, none⟩ = some (.int .i64 m.epoch) := cell_of_block (i := 4) HRR.out.msg rfl
        have hcr := HRR.out.chg
        have H1 := HHO.out.still hcr
        have hsay := rsay_any wr b o id out G 4 m.frm m.epoch m.page (hcr.cell HID.out) H1 HL.out
        have HSAY := Lib.hid hsay
        have HCR := Lib.hid hcr
        have HOL := Lib.hid HHO.out.lt
        have HOB : Hid (b < w.heap.size) := Lib.hid HHO.out.lt.1
        clear hno hall hkl hcr H1 hsay hk
        go_wp2_with fail
        refine HSAY.out.mono ?_
        rintro e w9 ⟨rfl, G9, H9, S9⟩
        have hn1 : ∀ j, w.heap.size ≤ j → ¬ (j = b ∨ j ∈ G) := fun j hj hx => by
          have h1 := HOB.out
          rcases hx with hx | hx
          · omega
          · have := HOL.out.2 j hx; omega
        have hb9 := S9.chg.keep HRR.out.box (hn1 _ (Nat.le_refl _))
        have hr9 := S9.chg.keep HRR.out.res (hn1 _ (by omega))
        have m0 : w9.cell? ⟨w.heap.size, 0, none⟩ = some (.string s.page) := cell_of_block (i := 0) hb9 rfl
        have m2 : w9.cell? ⟨w.heap.size, 2, none⟩ = some (.int .i64 s.epoch) := cell_of_block (i := 2) hb9 rfl
        have m7 : w9.cell? ⟨w.heap.size, 7, none⟩ = some (.slice a7 n7 c7) := cell_of_block (i := 7) hb9 rfl
        obtain ⟨hbt, hct⟩ := top8 hr9 rfl (.string s.page) (.int .i64 1) (.int .i64 s.epoch) (.int .i64 0) (.string (joinL (storeS s m).parts)) (.slice none 0 0) (.slice none 0 0) (.slice a7 n7 c7)
        have HBT := Lib.hid hbt
        have HCT := Lib.hid hct
        have HH9 := Lib.hid H9
        have HS9 := Lib.hid S9
        obtain ⟨z0, y0, z1, y1, z2, y2, z3, y3, z4, y4, z5, y5, z6, y6, z7, y7, -⟩ := store8 (so := 0) hr9 (.string s.page) (.int .i64 1) (.int .i64 s.epoch) (.int .i64 0) (.string (joinL (storeS s m).parts)) (.slice none 0 0) (.slice none 0 0) (.slice a7 n7 c7) ⟨rfl, rfl, rfl, rfl, rfl, rfl, rfl, rfl⟩
        simp only [drew_cell, drew_frozen, Nat.zero_add] at z0 y0 z1 y1 z2 y2 z3 y3 z4 y4 z5 y5 z6 y6 z7 y7
        clear hbt hct hb9 hr9 H9 S9 hn1
        go_wp2_with fail
        refine store_end rfl HBT.out rfl rfl (.inr ⟨HNO.out, ?_, ?_⟩)
        · unfold seatV doneS
          rw [HSL.out.2.2.1, HSL.out.2.2.2.2.1]
        · exact put_past HCR.out HH9.out HS9.out HCT.out (by omega) (lt_of_block HRR.out.res) HOB.out HOL.out.2
end Go.Proofs.Ytkoopagjjmdodaa
namespace Go.Proofs.Ytkoopagjjmdodaa
open Go.RowKit
set_option linter.unusedVariables false
set_option linter.unusedSimpArgs false

/-- The seat of a message's page, or a blank one. -/
def refSeat (h : Host) (m : Msg) : Seat := match findS m.page h.seats 0 with
  | none => blankSeat m.page
  | some j => h.seats.getD j (blankSeat m.page)
def oursB (s : Seat) (m : Msg) : Bool := s.epoch == m.epoch && s.peer == m.frm
def openB (s : Seat) : Bool := s.state == 0 || s.state == 5
def asksB (m : Msg) : Bool := m.kind == 1 || m.kind == 2 || m.kind == 5
def activeB (s : Seat) : Bool := s.state == 1 || s.state == 2 || s.state == 3
def waitB (s : Seat) (m : Msg) : Bool := (s.state == 2 || s.state == 3) && oursB s m
/-- The seat put back. -/
def putH (h : Host) (m : Msg) (y : Seat) (out' : List Msg) : Host := match findS m.page h.seats 0 with
  | none => { h with seats := h.seats ++ [y], out := out' }
  | some j => { h with seats := h.seats.set j y, out := out' }
def storeR (h : Host) (s : Seat) (m : Msg) : Host :=
  if m.kind = 1 then putH h m s h.out
  else if (storeS s m).have_.contains false = true then putH h m (storeS s m) h.out
  else putH h m (doneS (storeS s m)) (h.out ++ [answerM h m 4])
def newS (s : Seat) (m : Msg) : Seat := ⟨m.page, 4, m.epoch, m.frm, ⟨#[]⟩, List.replicate m.count.toNat ⟨#[]⟩, List.replicate m.count.toNat false, s.refuses⟩
def goneS (s : Seat) (m : Msg) : Seat := ⟨m.page, 5, s.epoch, 0, ⟨#[]⟩, [], [], s.refuses⟩
def againS (s : Seat) (m : Msg) : Seat := ⟨m.page, 1, s.epoch + 1, 0, s.letter, [], [], s.refuses⟩
def noB (h : Host) (m : Msg) : Bool := (findS m.page h.seats 0).isNone
def barS (h : Host) (s : Seat) (m : Msg) : Seat := if (noB h m || s.state == 4) = true then { blankSeat m.page with refuses := s.refuses ++ [m.epoch] } else { s with refuses := s.refuses ++ [m.epoch] }
def pieceM (h : Host) (s : Seat) (m : Msg) : Msg := ⟨2, h.id, s.peer, s.page, s.epoch, m.index, (partsL s.letter).length, (partsL s.letter).getD m.index.toNat ⟨#[]⟩⟩
def recvR (h : Host) (s : Seat) (m : Msg) : Host :=
  if (asksB m && s.refuses.contains m.epoch) = true then { h with out := h.out ++ [answerM h m 6] }
  else if (asksB m && (activeB s || s.state == 5) && decide (m.epoch ≤ s.epoch)) = true then { h with out := h.out ++ [answerM h m 4] }
  else if (m.kind == 5 && (openB s || (s.state == 4 && oursB s m))) = true then putH h m (barS h s m) (h.out ++ [answerM h m 6])
  else if ((m.kind == 1 || m.kind == 2) && openB s) = true then storeR h (newS s m) m
  else if (m.kind == 2 && s.state == 4 && oursB s m && m.count == (s.parts.length : Int)) = true then storeR h s m
  else if (m.kind == 3 && s.state == 2 && oursB s m && decide (m.index < ((partsL s.letter).length : Int))) = true then { h with out := h.out ++ [pieceM h s m] }
  else if (m.kind == 4 && waitB s m) = true then putH h m (goneS s m) h.out
  else if (m.kind == 6 && waitB s m) = true then putH h m (againS s m) h.out
  else h
/-- What is known of receiving seats. -/
def StOk (h : Host) : Prop := ∀ s ∈ h.seats, s.state = 4 → s.letter = ⟨#[]⟩ ∧ s.have_.contains false = true
theorem formed_kind {m : Msg} (h : formedB m = true) : m.kind = 1 ∨ m.kind = 2 ∨ m.kind = 3 ∨ m.kind = 4 ∨ m.kind = 5 ∨ m.kind = 6 := by
  unfold formedB Msg.tailB at h
  rw [Bool.and_eq_true] at h
  have h2 := h.2
  split at h2
  · exact .inl ‹_›
  · split at h2
    · exact .inr (.inl ‹_›)
    · split at h2
      · exact .inr (.inr (.inl ‹_›))
      · split at h2
        · rename_i hx; omega
        · cases h2
theorem formed_index {m : Msg} (h : formedB m = true) (hk : m.kind = 3) : 0 ≤ m.index := by
  unfold formedB Msg.tailB at h
  rw [Bool.and_eq_true] at h
  have h2 := h.2
  rw [if_neg (by omega), if_neg (by omega), if_pos hk] at h2
  simp only [Bool.and_eq_true, decide_eq_true_eq] at h2
  exact h2.1.1.1
theorem getD_rep (n i : Nat) (h : i < n) : (List.replicate n false).getD i true = false := by
  rw [List.getD_eq_getElem?_getD, List.getElem?_replicate, if_pos h]; rfl
theorem host_out (h : Host) : { h with out := h.out } = h := rfl
theorem set_same {l : List Seat} {j : Nat} (hj : j < l.length) : l.set j l[j] = l := by
  apply List.ext_getElem?
  intro i
  by_cases hi : j = i
  · subst hi
    rw [List.getElem?_set_self hj, List.getElem?_eq_getElem hj]
  · rw [List.getElem?_set_ne hi]
/-- A new receiving seat. -/
theorem new_eq {h : Host} {m : Msg} (hf : formedB m = true) (hk : m.kind = 1 ∨ m.kind = 2) (s : Seat) (hs : s.page = m.page) (l : List Seat) (j : Nat) (hj : j < l.length) :
    partM { h with seats := l.set j (recvS s m) } j m = if m.kind = 1 then { h with seats := l.set j (newS s m) }
      else if (storeS (newS s m) m).have_.contains false = true then { h with seats := l.set j (storeS (newS s m) m) }
      else { h with seats := l.set j (doneS (storeS (newS s m) m)), out := h.out ++ [answerM h m 4] } := by
  have hn : newS s m = recvS s m := by unfold newS recvS resetS; rw [hs]
  obtain ⟨⟨c1, c2⟩, ⟨c3, c4⟩, -⟩ := formed_counted hf hk
  have hg : ((l.set j (recvS s m)).getD j (blankSeat m.page)) = recvS s m := by
    rw [List.getD_eq_getElem?_getD, List.getElem?_set_self hj]; rfl
  unfold partM
  simp only [hg]
  rcases hk with hk | hk
  · have hp : partB (recvS s m) m = false := by unfold partB; rw [hk]; rfl
    rw [hp, if_neg (by decide), if_pos hk, hn]
  · have hi : m.index.toNat < m.count.toNat := by have := c4 hk; omega
    have hgd : (recvS s m).have_.getD m.index.toNat true = false := getD_rep _ _ hi
    have hp : partB (recvS s m) m = true := by
      unfold partB
      rw [hgd, hk]
      have h1 : ((recvS s m).parts.length : Int) = m.count := by show ((List.replicate _ _).length : Int) = _; rw [List.length_replicate]; omega
      rw [h1]
      simp [fromB, recvS, resetS]
    have hst : storeS (recvS s m) m = gotS (recvS s m) m := by unfold storeS; rw [if_pos hgd]
    rw [hp, if_pos rfl, if_neg (show ¬ m.kind = 1 by omega), hn, hst, List.set_set, List.set_set]
    rfl
theorem set_snoc (l : List Seat) (x y : Seat) : (l ++ [x]).set l.length y = l ++ [y] := by
  rw [List.set_append_right _ _ (Nat.le_refl _), Nat.sub_self]; rfl
theorem storeR_new_none {h : Host} {m : Msg} (hf : formedB m = true) (hk : m.kind = 1 ∨ m.kind = 2) (hfs : findS m.page h.seats 0 = none) :
    storeR h (newS (blankSeat m.page) m) m = acceptM h m := by
  unfold storeR acceptM putH
  simp only [hfs]
  have h1 := new_eq (h := h) hf hk (blankSeat m.page) rfl (h.seats ++ [recvS (blankSeat m.page) m]) h.seats.length (by simp)
  rw [set_snoc, set_snoc, set_snoc, set_snoc] at h1
  rw [h1]
theorem storeR_new_some {h : Host} {m : Msg} {j : Nat} (hf : formedB m = true) (hk : m.kind = 1 ∨ m.kind = 2) (hfs : findS m.page h.seats 0 = some j) (hj : j < h.seats.length) (hp : h.seats[j].page = m.page) (ho : openB h.seats[j] = true) :
    storeR h (newS h.seats[j] m) m = acceptM h m := by
  unfold storeR acceptM putH
  simp only [hfs, getS hj]
  rw [if_pos (show freeM h.seats[j] = true from ho)]
  exact (new_eq (h := h) hf hk h.seats[j] hp h.seats j hj).symm
theorem storeR_old {h : Host} {m : Msg} {j : Nat} (hk : m.kind = 2) (hfs : findS m.page h.seats 0 = some j) (hj : j < h.seats.length) (h4 : h.seats[j].state = 4) (ho : oursB h.seats[j] m = true) (hc : m.count = (h.seats[j].parts.length : Int)) (hm : h.seats[j].have_.contains false = true) :
    storeR h h.seats[j] m = acceptM h m := by
  unfold storeR acceptM putH
  simp only [hfs, getS hj]
  rw [if_neg (show ¬ m.kind = 1 by omega), if_neg (show ¬ freeM h.seats[j] = true by unfold freeM; rw [h4]; decide)]
  unfold partM
  simp only [getS hj]
  have ho2 := ho
  unfold oursB at ho2
  rw [Bool.and_eq_true] at ho2
  have hep : h.seats[j].epoch = m.epoch := by simpa using ho2.1
  have hfr : fromB h.seats[j] m = true := by unfold fromB; rw [ho2.1, ho2.2, h4]; rfl
  have hce : ((h.seats[j].parts.length : Int) == m.count) = true := by rw [hc]; simp
  have hke : (m.kind == 2) = true := by rw [hk]; rfl
  cases hg : h.seats[j].have_.getD m.index.toNat true with
  | false =>
    have hp : partB h.seats[j] m = true := by unfold partB; rw [hfr, hce, hke, hg]; rfl
    have hst : storeS h.seats[j] m = gotS h.seats[j] m := by unfold storeS; rw [if_pos hg]
    rw [hp, if_pos rfl, hst]
    by_cases hc2 : (gotS h.seats[j] m).have_.contains false = true
    · rw [if_pos hc2, if_pos hc2]
    · rw [if_neg hc2, if_neg hc2]
      have hd : doneS (gotS h.seats[j] m) = { resetS (gotS h.seats[j] m) 1 m.epoch with letter := joinL (gotS h.seats[j] m).parts } := by
        unfold doneS resetS gotS
        rw [hep]
      rw [hd]
  | true =>
    have hp : partB h.seats[j] m = false := by unfold partB; rw [hg]; simp
    have hst : storeS h.seats[j] m = h.seats[j] := by unfold storeS; rw [if_neg (by rw [hg]; decide)]
    rw [hp, hst, if_pos hm, if_neg (show ¬ false = true by decide), set_same hj]
theorem recvR_none {h : Host} {m : Msg} (hf : formedB m = true) (hd : m.dst = h.id) (hfs : findS m.page h.seats 0 = none) : recvR h (blankSeat m.page) m = receiveM h m := by
  have hk := formed_kind hf
  unfold receiveM
  rw [if_neg (by rw [hf]; simpa using hd)]
  have ha : askedM h m = 0 := by unfold askedM; rw [hfs]
  have c1 : ((blankSeat m.page).refuses.contains m.epoch) = false := rfl
  have c2 : (activeB (blankSeat m.page) || (blankSeat m.page).state == 5) = false := rfl
  have c3 : openB (blankSeat m.page) = true := rfl
  have c4 : ((blankSeat m.page).state == 4) = false := rfl
  have c5 : ((blankSeat m.page).state == 2) = false := rfl
  have c6 : waitB (blankSeat m.page) m = false := rfl
  have hacc := storeR_new_none (h := h) (m := m) hf
  unfold recvR
  rw [c1, c2, c3, c4, c5, c6]
  rcases hk with k | k | k | k | k | k
  · rw [← hacc (.inl k) hfs]; simp [k, ha, asksB]
  · rw [← hacc (.inr k) hfs]; simp [k, ha, asksB]
  · unfold needM; rw [hfs]; simp [k, asksB]
  · unfold settledM; rw [hfs]; simp [k, asksB]
  · simp [k, ha, asksB, cancelM, putH, hfs, barS, noB]
    rfl
  · unfold settledM; rw [hfs]; simp [k, asksB]
theorem recvR_some {h : Host} {m : Msg} {j : Nat} (hf : formedB m = true) (hd : m.dst = h.id) (hst : StOk h) (hfs : findS m.page h.seats 0 = some j) (hj : j < h.seats.length) : recvR h h.seats[j] m = receiveM h m := by
  have hk := formed_kind hf
  have hpg := findS_page0 hfs hj
  have h4 := hst h.seats[j] (List.getElem_mem hj)
  unfold receiveM
  rw [if_neg (by rw [hf]; simpa using hd)]
  have ha : askedM h m = knownM h.seats[j] m.epoch := by unfold askedM; simp only [hfs, getS hj]
  have hx : ∀ k : Int, (k = 1 ∨ k = 2 ∨ k = 5) → ∀ R : Host, (asksB m = true) → (if knownM h.seats[j] m.epoch ≠ 0 then { h with out := h.out ++ [answerM h m (knownM h.seats[j] m.epoch)] } else R) =
      if (asksB m && h.seats[j].refuses.contains m.epoch) = true then { h with out := h.out ++ [answerM h m 6] } else if (asksB m && (activeB h.seats[j] || h.seats[j].state == 5) && decide (m.epoch ≤ h.seats[j].epoch)) = true then { h with out := h.out ++ [answerM h m 4] } else R := by
    intro k _ R has
    rw [has]
    unfold knownM
    by_cases q : h.seats[j].refuses.contains m.epoch = true
    · rw [if_pos q, if_pos (by decide), if_pos (by rw [q]; rfl)]
    · rw [if_neg q, if_neg (show ¬ (true && h.seats[j].refuses.contains m.epoch) = true by rw [Bool.true_and]; exact q)]
      by_cases q2 : (h.seats[j].state == 1 || h.seats[j].state == 2 || h.seats[j].state == 3 || h.seats[j].state == 5) = true ∧ m.epoch ≤ h.seats[j].epoch
      · rw [if_pos q2, if_pos (by decide), if_pos (by unfold activeB; rw [q2.1]; simpa using q2.2)]
      · rw [if_neg q2, if_neg (by decide), if_neg (show ¬ (true && (activeB h.seats[j] || h.seats[j].state == 5) && decide (m.epoch ≤ h.seats[j].epoch)) = true by
          intro hh
          apply q2
          unfold activeB at hh
          rw [Bool.and_eq_true] at hh
          exact ⟨by simpa using hh.1, by simpa using hh.2⟩)]
  have hold : ∀ R : Prop, True := fun _ => trivial
  rcases hk with k | k | k | k | k | k
  · have has : asksB m = true := by unfold asksB; rw [k]; rfl
    rw [if_pos (.inl k), ha, hx 1 (.inl rfl) _ has, if_neg (show ¬ m.kind = 5 by omega)]
    unfold recvR
    simp only [k]
    by_cases ho : openB h.seats[j] = true
    · rw [← storeR_new_some hf (.inl k) hfs hj hpg ho, ho]
      rfl
    · have ho2 : openB h.seats[j] = false := by simpa using ho
      have hacc : acceptM h m = h := by
        unfold acceptM partM
        simp only [hfs, getS hj]
        rw [if_neg (show ¬ freeM h.seats[j] = true from ho), if_neg (by unfold partB; rw [k]; simp)]
      rw [ho2, hacc]
      rfl
  · have has : asksB m = true := by unfold asksB; rw [k]; rfl
    rw [if_pos (.inr (.inl k)), ha, hx 1 (.inl rfl) _ has, if_neg (show ¬ m.kind = 5 by omega)]
    unfold recvR
    simp only [k]
    by_cases ho : openB h.seats[j] = true
    · rw [← storeR_new_some hf (.inr k) hfs hj hpg ho, ho]
      rfl
    · have ho2 : openB h.seats[j] = false := by simpa using ho
      rw [ho2]
      by_cases he : (h.seats[j].state == 4 && oursB h.seats[j] m && m.count == (h.seats[j].parts.length : Int)) = true
      · have he' := he
        simp only [Bool.and_eq_true, beq_iff_eq] at he'
        rw [← storeR_old k hfs hj he'.1.1 he'.1.2 he'.2 (h4 he'.1.1).2]
        simp only [show ((2 : Int) == 5) = false from rfl, show ((2 : Int) == 2) = true from rfl, Bool.false_and, Bool.and_false, Bool.true_and, he, if_true]
        rfl
      · have he2 : (h.seats[j].state == 4 && oursB h.seats[j] m && m.count == (h.seats[j].parts.length : Int)) = false := by simpa using he
        have hacc : acceptM h m = h := by
          unfold acceptM partM
          simp only [hfs, getS hj]
          rw [if_neg (show ¬ freeM h.seats[j] = true from ho), if_neg ?_]
          intro hp
          apply he
          unfold partB fromB at hp
          simp only [Bool.and_eq_true, beq_iff_eq] at hp
          unfold oursB
          simp only [Bool.and_eq_true, beq_iff_eq]
          exact ⟨⟨hp.1.1.2.1.1, hp.1.1.2.1.2, hp.1.1.2.2⟩, hp.1.2.symm⟩
        rw [hacc]
        simp only [show ((2 : Int) == 5) = false from rfl, show ((2 : Int) == 2) = true from rfl, Bool.false_and, Bool.and_false, Bool.true_and, he2]
        rfl
  · have has : asksB m = false := by unfold asksB; rw [k]; rfl
    rw [if_neg (by omega), if_pos k]
    unfold recvR needM
    simp only [hfs, getS hj, has, k]
    have hi := formed_index hf k
    have e1 : (decide (m.index < ((partsL h.seats[j].letter).length : Int)) = true) ↔ m.index.toNat < (partsL h.seats[j].letter).length := by rw [decide_eq_true_eq]; omega
    by_cases q : (h.seats[j].state == 2 && h.seats[j].epoch == m.epoch && h.seats[j].peer == m.frm) = true ∧ m.index.toNat < (partsL h.seats[j].letter).length
    · rw [if_pos q]
      have q2 : ((3 : Int) == 3 && h.seats[j].state == 2 && oursB h.seats[j] m && decide (m.index < ((partsL h.seats[j].letter).length : Int))) = true := by
        have q1 := q.1
        rw [e1.2 q.2]
        unfold oursB
        simp only [Bool.and_eq_true, beq_iff_eq] at q1 ⊢
        exact ⟨⟨⟨trivial, q1.1.1⟩, q1.1.2, q1.2⟩, trivial⟩
      rw [if_neg (by simp), if_neg (by simp), if_neg (by simp), if_neg (by simp), if_neg (by simp), if_pos q2]
      rfl
    · rw [if_neg q]
      have q2 : ¬ ((3 : Int) == 3 && h.seats[j].state == 2 && oursB h.seats[j] m && decide (m.index < ((partsL h.seats[j].letter).length : Int))) = true := by
        intro hh
        apply q
        rw [Bool.and_eq_true, e1] at hh
        refine ⟨?_, hh.2⟩
        have h1 := hh.1
        unfold oursB at h1
        simp only [Bool.and_eq_true, beq_iff_eq] at h1 ⊢
        exact ⟨⟨h1.1.2, h1.2.1⟩, h1.2.2⟩
      rw [if_neg (by simp), if_neg (by simp), if_neg (by simp), if_neg (by simp), if_neg (by simp), if_neg q2, if_neg (by simp), if_neg (by simp)]
  · have has : asksB m = false := by unfold asksB; rw [k]; rfl
    rw [if_neg (by omega), if_neg (by omega)]
    unfold recvR settledM
    simp only [hfs, getS hj, has, k]
    rw [if_neg (by simp), if_neg (by simp), if_neg (by simp), if_neg (by simp), if_neg (by simp), if_neg (by simp)]
    unfold settleM
    have hw : ((h.seats[j].state == 2 || h.seats[j].state == 3) && h.seats[j].epoch == m.epoch && h.seats[j].peer == m.frm) = waitB h.seats[j] m := by
      unfold waitB oursB; rw [Bool.and_assoc]
    rw [hw]
    by_cases q : waitB h.seats[j] m = true
    · rw [if_pos (by rw [q]; rfl), if_pos q, if_pos k]
      unfold putH
      simp only [hfs]
      have : goneS h.seats[j] m = { resetS h.seats[j] 5 h.seats[j].epoch with letter := ⟨#[]⟩ } := by unfold goneS resetS; rw [hpg]
      rw [this]
    · have q2 : waitB h.seats[j] m = false := by simpa using q
      rw [q2, if_neg (by decide), if_neg (by decide), if_neg (by decide), set_same hj]
  · have has : asksB m = true := by unfold asksB; rw [k]; rfl
    rw [if_pos (.inr (.inr k)), ha, hx 1 (.inl rfl) _ has, if_pos k]
    unfold recvR
    simp only [k]
    have hw : (freeM h.seats[j] || fromB h.seats[j] m) = ((5 : Int) == 5 && (openB h.seats[j] || (h.seats[j].state == 4 && oursB h.seats[j] m))) := by
      unfold freeM fromB openB oursB
      rw [Bool.and_assoc]; simp
    unfold cancelM
    simp only [hfs, getS hj]
    rw [hw]
    by_cases q : ((5 : Int) == 5 && (openB h.seats[j] || (h.seats[j].state == 4 && oursB h.seats[j] m))) = true
    · rw [if_pos q, if_pos q]
      unfold putH
      simp only [hfs]
      have : barS h h.seats[j] m = refuseS h.seats[j] m.epoch := by
        unfold barS refuseS noB
        rw [hfs]
        by_cases q4 : h.seats[j].state = 4
        · rw [if_pos (by rw [q4]; rfl), if_pos q4]
          unfold resetS blankSeat
          rw [hpg, (h4 q4).1]
        · rw [if_neg (by simpa using q4), if_neg q4]
      rw [this]
    · rw [if_neg q, if_neg q]
      rfl
  · have has : asksB m = false := by unfold asksB; rw [k]; rfl
    rw [if_neg (by omega), if_neg (by omega)]
    unfold recvR settledM
    simp only [hfs, getS hj, has, k]
    rw [if_neg (by simp), if_neg (by simp), if_neg (by simp), if_neg (by simp), if_neg (by simp), if_neg (by simp), if_neg (by simp)]
    unfold settleM
    have hw : ((h.seats[j].state == 2 || h.seats[j].state == 3) && h.seats[j].epoch == m.epoch && h.seats[j].peer == m.frm) = waitB h.seats[j] m := by
      unfold waitB oursB; rw [Bool.and_assoc]
    rw [hw]
    by_cases q : waitB h.seats[j] m = true
    · rw [if_pos (by rw [q]; rfl), if_pos q, if_neg (by omega)]
      unfold putH
      simp only [hfs]
      have : againS h.seats[j] m = resetS h.seats[j] 1 (h.seats[j].epoch + 1) := by unfold againS resetS; rw [hpg]
      rw [this]
    · have q2 : waitB h.seats[j] m = false := by simpa using q
      rw [q2, if_neg (by decide), if_neg (by decide), set_same hj]
theorem recvR_eq {h : Host} {m : Msg} (hf : formedB m = true) (hd : m.dst = h.id) (hst : StOk h) : recvR h (refSeat h m) m = receiveM h m := by
  unfold refSeat
  cases hfs : findS m.page h.seats 0 with
  | none => exact recvR_none hf hd hfs
  | some j =>
    have hj : j < h.seats.length := by have := findS_lt m.page h.seats 0 j hfs; omega
    simp only [getS hj]
    exact recvR_some hf hd hst hfs hj
/-- Receiving seats stay so. -/
theorem StOk.putH {h : Host} (H : StOk h) (m : Msg) (y : Seat) (out' : List Msg) (hy : y.state = 4 → y.letter = ⟨#[]⟩ ∧ y.have_.contains false = true) : StOk (putH h m y out') := by
  unfold Go.Proofs.Ytkoopagjjmdodaa.putH
  cases hfs : findS m.page h.seats 0 with
  | none =>
    intro s hs
    rcases List.mem_append.1 hs with x | x
    · exact H s x
    · simp only [List.mem_singleton] at x; subst x; exact hy
  | some j =>
    intro s hs
    rcases List.mem_or_eq_of_mem_set hs with x | x
    · exact H s x
    · subst x; exact hy
theorem StOk.storeR {h : Host} (H : StOk h) (m : Msg) (s : Seat) (hs : s.state = 4 → s.letter = ⟨#[]⟩ ∧ s.have_.contains false = true) : StOk (storeR h s m) := by
  unfold Go.Proofs.Ytkoopagjjmdodaa.storeR
  split
  · exact H.putH m _ _ hs
  · split
    · rename_i hc
      refine H.putH m _ _ fun h4 => ⟨?_, hc⟩
      have hl := storeS_len s m
      rw [hl.2.2.2.1] at h4
      rw [hl.2.2.2.2.2.2.1]
      exact (hs h4).1
    · exact H.putH m _ _ fun h4 => by have : (1 : Int) = 4 := h4; omega
theorem StOk.recvR {h : Host} (H : StOk h) {m : Msg} (hf : formedB m = true) (s : Seat) (hs : s.state = 4 → s.letter = ⟨#[]⟩ ∧ s.have_.contains false = true) : StOk (recvR h s m) := by
  unfold Go.Proofs.Ytkoopagjjmdodaa.recvR
  split
  · exact H
  split
  · exact H
  split
  · refine H.putH m _ _ ?_
    unfold barS
    split
    · intro h4; have : (0 : Int) = 4 := h4; omega
    · rename_i hx
      intro h4
      have h5 : s.state = 4 := h4
      rw [h5] at hx
      simp at hx
  split
  · rename_i hk
    refine H.storeR m _ fun h4 => ⟨rfl, ?_⟩
    rw [Bool.and_eq_true] at hk
    have hk2 : m.kind = 1 ∨ m.kind = 2 := by simpa using hk.1
    obtain ⟨⟨c1, c2⟩, -⟩ := formed_counted hf hk2
    show (List.replicate m.count.toNat false).contains false = true
    obtain ⟨n, hn⟩ : ∃ n, m.count.toNat = n + 1 := ⟨m.count.toNat - 1, by omega⟩
    rw [hn, List.replicate_succ]
    rfl
  split
  · exact H.storeR m s hs
  split
  · exact H
  split
  · exact H.putH m _ _ fun h4 => by have : (5 : Int) = 4 := h4; omega
  split
  · exact H.putH m _ _ fun h4 => by have : (1 : Int) = 4 := h4; omega
  · exact H
theorem StOk.receive {h : Host} (H : StOk h) (m : Msg) : StOk (receiveM h m) := by
  by_cases hb : formedB m = false ∨ m.dst ≠ h.id
  · unfold receiveM; rw [if_pos hb]; exact H
  · have hf : formedB m = true := by
      cases hx : formedB m with
      | true => rfl
      | false => exact (hb (.inl hx)).elim
    have hd : m.dst = h.id := by
      by_cases hx : m.dst = h.id
      · exact hx
      · exact (hb (.inr hx)).elim
    rw [← recvR_eq hf hd H]
    refine H.recvR hf _ ?_
    unfold refSeat
    cases hfs : findS m.page h.seats 0 with
    | none => intro h4; have : (0 : Int) = 4 := h4; omega
    | some j =>
      have hj : j < h.seats.length := by have := findS_lt m.page h.seats 0 j hfs; omega
      simp only [getS hj]
      exact H _ (List.getElem_mem hj)
theorem StOk.start {h : Host} (H : StOk h) (page : ByteArray) : StOk (startM h page).2 := by
  unfold startM
  split
  · exact H
  · split
    · exact H
    · intro s hs
      rcases List.mem_append.1 hs with x | x
      · exact H s x
      · simp only [List.mem_singleton] at x; subst x; intro h4; have : (1 : Int) = 4 := h4; omega
theorem StOk.hand {h : Host} (H : StOk h) (page letter : ByteArray) (dst : Int) : StOk (handM h page letter dst).2 := by
  unfold handM
  cases findS page h.seats 0 with
  | none => exact H
  | some j =>
    simp only
    split
    · exact H
    split
    · exact H
    split
    · exact H
    intro s hs
    rcases List.mem_or_eq_of_mem_set hs with x | x
    · exact H s x
    · subst x; intro h4; have : (2 : Int) = 4 := h4; omega
theorem StOk.withdraw {h : Host} (H : StOk h) (page : ByteArray) : StOk (withdrawM h page).2 := by
  unfold withdrawM
  cases findS page h.seats 0 with
  | none => exact H
  | some j =>
    simp only
    split
    · exact H
    intro s hs
    rcases List.mem_or_eq_of_mem_set hs with x | x
    · exact H s x
    · subst x; intro h4; have : (3 : Int) = 4 := h4; omega
theorem StOk.tick {h : Host} (H : StOk h) : StOk (tickM h) := H
end Go.Proofs.Ytkoopagjjmdodaa
