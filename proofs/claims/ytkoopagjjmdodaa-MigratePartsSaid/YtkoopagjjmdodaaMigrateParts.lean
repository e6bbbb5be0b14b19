/-
  MigrateParts: a letter is sent in parts of at most 1000 bytes, which together are the letter, and parts that are missing are asked for and sent again; for all sizes and every lost message.
-/
import Derived.Test.YtkoopagjjmdodaaLaw
import Derived.Test.YtkoopagjjmdodaaPld
import Derived.Test.YtkoopagjjmdodaaPwo
import Derived.Test.YtkoopagjjmdodaaText
import Derived.Test.YtkoopagjjmdodaaDigits
import Derived.Laws.StructEq
namespace Go.Proofs.Ytkoopagjjmdodaa
set_option linter.unusedVariables false
set_option linter.unusedSimpArgs false
open Go.ChangeShapes Go.WideShapes Go.ChangeAt Go.RowKit
open Go.ChangeMaps (open_string shut_string)

theorem partsL_count : ∀ (n : Nat) (l : ByteArray), l.size ≤ n → (partsL l).length = max ((l.size + 999) / 1000) 1 := by
  intro n
  induction n using Nat.strongRecOn with
  | _ n ih =>
    intro l hl
    by_cases h : 1000 < l.size
    · rw [partsL_big h, List.length_cons]
      have hs : (l.extract 1000 l.size).size = l.size - 1000 := by rw [ByteArray.size_extract]; omega
      rw [ih (l.size - 1000) (by omega) _ (by omega), hs]
      omega
    · rw [partsL_small h]
      show 1 = _
      omega
/-- The page p goes from the machine 7 to the machine 8. -/
abbrev pTrip (letter : ByteArray) : Trip := ⟨⟨#[112]⟩, 7, 8, 2, letter⟩
theorem pTrip_ok {letter : ByteArray} (hn : letter.size < 6000) : (pTrip letter).Ok := by
  refine ⟨by show 1 ≤ 1 ∧ 1 ≤ 200; omega, by show (0 : Int) ≤ 7; omega, by show (0 : Int) ≤ 8; omega, by show (7 : Int) ≠ 8; omega, by show (2 : Int) ≤ 2; omega, ?_⟩
  show (partsL letter).length ≤ _
  rw [partsL_count _ _ (Nat.le_refl _)]
  omega
abbrev pSeat (letter : ByteArray) : Seat := { newSeat ⟨#[112]⟩ with state := 2, epoch := 2, peer := 8, letter := letter }
theorem MsgRow.cellAt {w : World} {g off n cap : Nat} {l : List Msg} (h : MsgRow w (.slice (some ⟨g, off, none⟩) n cap) l) {i : Nat} (hi : i < l.length) {j : Nat} {u : Value} (hu : l[i].cells[j]? = some u) : w.cell? ⟨g, off + (i * 8 + j), none⟩ = some u := by
  have hj : j < 8 := by
    have := (List.getElem?_eq_some_iff.1 hu).1
    rw [Msg.len] at this; exact this
  refine RowAt.cellAt h (i * 8 + j) u ?_
  rw [flat_get Msg.cells 8 Msg.len l i j hi hj]
  exact hu

theorem LostEnd.sum {t : Trip} {k : Nat} {a b : Host} (T : t.Ok) (h : LostEnd t k a b) (he : t.e ≤ 1000) (hk : k ≤ t.L.length) : ∃ m1 re, runsM b t.pg = (re, decide (k = 0)) ∧ (tickM b).out = [m1] ∧ MsgIn 1000 m1 ∧
    (k = 0 ∧ (receiveM a m1).out = [] ∧ letterM { tickM b with out := [] } t.pg = (t.letter, true) ∨ 1 ≤ k ∧ (receiveM a m1).out = [t.part (k - 1)] ∧ letterM (receiveM { tickM b with out := [] } (t.part (k - 1))) t.pg = (t.letter, true)) := by
  have h2 := T.e
  have h3 := T.pg
  by_cases h0 : k = 0
  · obtain ⟨q1, q2, q3, q4⟩ := h.none h0
    exact ⟨t.taken, t.e, by rw [q1, decide_eq_true h0], q2, ⟨by show 0 ≤ t.e; omega, he, h3.2, by show 0 ≤ 1000; omega⟩, .inl ⟨h0, q3, q4⟩⟩
  · obtain ⟨q1, q2, q3, q4⟩ := h.some (by omega)
    exact ⟨t.need (k - 1), 0, by rw [q1, decide_eq_false h0], q2, ⟨by show 0 ≤ t.e; omega, he, h3.2, by show 0 ≤ 1000; omega⟩, .inr ⟨by omega, q3, q4⟩⟩

set_option maxHeartbeats 6400000 in
set_option maxRecDepth 100000 in
theorem migrateParts_walk (s q : Int) (w : World) (hs : IntKind.u16.min ≤ s ∧ s ≤ IntKind.u16.max) (hq : IntKind.u8.min ≤ q ∧ q ≤ IntKind.u8.max) :
    Calls Try.prog 7 #[.int .u16 s, .int .u8 q] w fun e w' => e = .returned (.bool true) ∧ Below w.heap.size w w' := by
  have e1 : IntKind.u16.min = 0 := by decide
  have e2 : IntKind.u16.max = 65535 := by decide
  have e3 : IntKind.u8.min = 0 := by decide
  have e4 : IntKind.u8.max = 255 := by decide
  rw [e1, e2] at hs
  rw [e3, e4] at hq
  clear e1 e2 e3 e4
  obtain ⟨s1, s2⟩ := hs
  obtain ⟨q1, q2⟩ := hq
  go_enter Try.func7, Try.ntmps7
  go_wp2_with fail
  refine (awake_any w).mono ?_
  rintro e w1 ⟨rfl, hc1⟩
  go_upto_region 4 with fail
  obtain ⟨n, hn⟩ : ∃ n : Nat, s % 6000 = (n : Int) := ⟨(s % 6000).toNat, by omega⟩
  have hn6 : n < 6000 := by omega
  rw [hn]
  have HN6 := Lib.hid hn6
  clear hn s1 s2 hn6
  go_wp2_with fail
  refine (text_any n 3 w1 (by have := HN6.out; omega) (by omega)).mono ?_
  rintro e w2 ⟨rfl, hc2⟩
  have HTX := Lib.hid (textB_size n 3)
  generalize textB n 3 = letter at *
  go_wp2_with fail
  refine (new_any 7 w2).mono ?_
  rintro e w3 ⟨rfl, hc3⟩
  rw [show (if (7 : Int) < 0 then (0 : Int) else 7) = 7 from rfl, show (if (7 : Int) < 0 then (1 : Int) else 0) = 0 from rfl]
  have hA := ((Own.made (A := hostR) w3 26 _ (newHost 7) (newHost_own w3 7)).from hc3)
  go_upto_region 6 with fail
  generalize hba : w3.heap.size = ba at *
  generalize w3.alloc (.cells [Value.int .i64 7, .slice none 0 0, .slice none 0 0].toArray 26) = w4 at *
  clear hba hc3
  go_wp2_with fail
  refine (new_any 8 w4).mono ?_
  rintro e w5 ⟨rfl, hc5⟩
  rw [show (if (8 : Int) < 0 then (0 : Int) else 8) = 8 from rfl, show (if (8 : Int) < 0 then (1 : Int) else 0) = 0 from rfl]
  have hB := ((Own.made (A := hostR) w5 26 _ (newHost 8) (newHost_own w5 8)).from hc5)
  go_upto_region 7 with fail
  generalize w5.heap.size = bb at *
  generalize w5.alloc (.cells [Value.int .i64 8, .slice none 0 0, .slice none 0 0].toArray 26) = w6 at *
  have P6 := PW.made hA hB
  have HC := Lib.hid (hc1.trans' hc2)
  clear hA hB hc5 hc1 hc2
  obtain ⟨Fa, HA, hop⟩ := P6.op
  have HOP := Lib.hid hop
  clear hop P6
  go_wp2_with fail
  refine (start_any w6 ba 0 (newHost 7) Fa ⟨#[112]⟩ HA (by decide) ⟨by decide⟩).mono ?_
  rintro e w7 ⟨rfl, hp⟩
  rw [startM_new 7 ⟨#[112]⟩ (by decide)] at hp ⊢
  have P7 := HOP.out _ _ hp
  clear hp HOP HA
  obtain ⟨Fa, HA, hop⟩ := P7.op
  have HOP := Lib.hid hop
  clear hop P7
  go_wp2_with fail
  refine (hand_ok w7 ba 0 ⟨7, [newSeat ⟨#[112]⟩], []⟩ Fa ⟨#[112]⟩ letter 8 0 (by simp) (findS_self _ _ _ rfl) rfl (by decide) (by decide) (by have := HTX.out; have := HN6.out; omega) ⟨by show (-1000000000 : Int) < 1; omega, by show (1 : Int) < 1000000000; omega⟩ HA ⟨by show 0 + 20000 < 1000000000; omega⟩).mono ?_
  rintro e w8 ⟨rfl, hp⟩
  have P8 := HOP.out _ _ hp
  clear hp HOP HA
  have hsent := Trip.sent (pTrip letter) (pSeat letter) rfl rfl rfl
  have P9 : PW w2 w8 ba bb ⟨7, [pSeat letter], (pTrip letter).msgs⟩ (newHost 8) [] := by
    rw [← hsent]
    exact P8
  clear P8 hsent
  have hT := pTrip_ok (letter := letter) (by rw [HTX.out]; exact HN6.out)
  have hcnt := partsL_count _ letter (Nat.le_refl _)
  rw [HTX.out] at hcnt
  have hn0 : (0 : Int) ≤ (n : Int) := Int.natCast_nonneg _
  have hn1 : (n : Int) < 6000 := by have := HN6.out; omega
  have hlen := (pTrip letter).msgs_length
  change _ = 1 + (partsL letter).length at hlen
  have HT := Lib.hid hT
  obtain ⟨P, hP⟩ : ∃ P, (partsL letter).length = P := ⟨_, rfl⟩
  rw [hP] at hlen hcnt
  have HP := Lib.hid hP
  have HLEN := Lib.hid hlen
  have hP1 : (P : Int) = max (((n : Int) + 999) / 1000) 1 := by omega
  have p1 : (1 : Int) ≤ (P : Int) := by omega
  have hb0 : ((1 : Int) + (P : Int) != 1 + max (((n : Int) + 999) / 1000) 1) = false := by rw [hP1]; simp
  have hb1 : ((P : Int) != 1 + (P : Int) - 1) = false := by simp; omega
  have p2 : (P : Int) ≤ 6 := by omega
  clear hT hcnt hP hlen hP1
  obtain ⟨Fa, HA, hop⟩ := P9.send
  have HOP := Lib.hid hop
  clear hop P9
  go_wp2_with fail
  refine (send_any w8 ba 0 _ Fa HA).mono ?_
  rintro e w9 ⟨v, F1, G, rfl, h1, s1, hown, hG, -⟩
  have P10 := HOP.out _ _ _ _ h1 s1 hown hG
  clear h1 s1 hown hG HOP HA
  have hrow := P10.row (List.mem_cons_self ..)
  change MsgRow w9 v (pTrip letter).msgs at hrow
  obtain ⟨g, off, cap, rfl, -, -⟩ := RowAt.addr hrow (by have := HLEN.out; omega)
  change PW w2 w9 ba bb ⟨7, [pSeat letter], []⟩ (newHost 8) [(_, (pTrip letter).msgs)] at P10
  have c0 : w9.cell? ⟨g, off, none⟩ = some (.int .i64 1) := hrow.cellAt (i := 0) (by have := HLEN.out; omega) (j := 0) rfl
  have c6 : w9.cell? ⟨g, off + 6, none⟩ = some (.int .i64 P) := by
    have := hrow.cellAt (i := 0) (by have := HLEN.out; omega) (j := 6) (u := .int .i64 ((partsL letter).length : Int)) rfl
    rw [HP.out, Nat.zero_mul, Nat.zero_add] at this
    exact this
  have H10 := Lib.hid P10
  clear P10 hrow
  rw [HLEN.out] at H10 ⊢
  go_upto_region 13 with fail
  have hl0 : Hid (((((partsL letter).take 0).map (·.data.toList)).flatten) = (⟨#[]⟩ : ByteArray).data.toList) := Lib.hid rfl
  clear c0 c6
  go_wp2_with fail
  go_loopw [12, 13] (fun s12 s13 wr => ∃ (j : Nat) (u : ByteArray), j ≤ P ∧ s13 = .int .i64 ((j : Int) + 1) ∧ s12 = .string u ∧ u.size ≤ j * 1000 ∧ Hid ((((partsL letter).take j).map (·.data.toList)).flatten = u.data.toList) ∧ wr = w9) (fun _ s13 _ => P + 1 - (intOf s13).toNat)
  case atStart => exact ⟨0, ⟨#[]⟩, Nat.zero_le _, rfl, rfl, Nat.le_refl _, hl0, rfl⟩
  case round =>
    obtain ⟨j, u, hj, rfl, rfl, hu, HU, rfl⟩ := hrel
    clear hl0
    have j0 : (0 : Int) ≤ (j : Int) := Int.natCast_nonneg _
    by_cases hlt : j < P
    · have hrow := H10.out.row (List.mem_cons_self ..)
      have hil : j + 1 < (pTrip letter).msgs.length := by rw [HLEN.out]; omega
      have hmj := (pTrip letter).msgs_succ j hil
      have hjp : j < (partsL letter).length := by have := HP.out; omega
      have hgd : (pTrip letter).L.getD j ⟨#[]⟩ = (partsL letter)[j] := by
        show (partsL letter).getD j ⟨#[]⟩ = _
        rw [List.getD_eq_getElem?_getD, List.getElem?_eq_getElem hjp]; rfl
      have hds := partsL_each _ letter (Nat.le_refl _) _ (List.getElem_mem hjp)
      have htk : (((partsL letter).take (j + 1)).map (·.data.toList)).flatten = u.data.toList ++ (partsL letter)[j].data.toList := by
        rw [List.take_succ_eq_append_getElem hjp, List.map_append, List.flatten_append, HU.out]
        simp
      have cc : ∀ (x : Nat) (y : Value), ((pTrip letter).part j).cells[x]? = some y → wr.cell? ⟨g, off + (j + 1) * 8 + x, none⟩ = some y := fun x y hxy => by
        have := hrow.cellAt (i := j + 1) (by rw [HLEN.out]; omega) (j := x) (u := y) (by rw [hmj]; exact hxy)
        rw [← Nat.add_assoc] at this
        exact this
      have c0 := cc 0 (.int .i64 2) rfl
      have c5 := cc 5 (.int .i64 j) rfl
      have c6 := cc 6 (.int .i64 ((partsL letter).length : Int)) rfl
      have c7 := cc 7 (.string ((pTrip letter).L.getD j ⟨#[]⟩)) rfl
      rw [HP.out] at c6
      rw [hgd] at c7
      rw [Nat.add_zero] at c0
      generalize (partsL letter)[j] = d at *
      have HTK := Lib.hid htk
      have hd2 : (d.size : Int) ≤ 1000 := by omega
      have h1 : (j : Int) + 1 < 1 + (P : Int) := by omega
      have hb2 : ((j : Int) != (j : Int) + 1 - 1) = false := by simp
      have h2 : u.size ≤ 6000 := by
        have : j ≤ 5 := by omega
        omega
      clear htk hgd hmj hil hjp cc hrow
      go_wp2_with fail
      go_roundw
      case rel => exact ⟨j + 1, u ++ d, by omega, by go_num, rfl, by rw [ByteArray.size_append]; omega, Lib.hid (by rw [HTK.out]; simp), trivial⟩
      case measure => simp [intOf]; omega
    · have hjP : P = j := by omega
      subst hjP
      have hul : letter = u := by
        have h1 := HU.out
        rw [List.take_of_length_le (by have := HP.out; omega), partsL_flat _ _ (Nat.le_refl _)] at h1
        exact ByteArray.ext (Array.toList_inj.1 h1)
      subst hul
      have hx : ¬ ((P : Int) + 1 < 1 + (P : Int)) := by omega
      clear HU hu hlt hj
      go_upto_region 21 with fail
      obtain ⟨k, hk⟩ : ∃ k : Nat, q % (1 + (P : Int)) = (k : Int) := ⟨(q % (1 + (P : Int))).toNat, by have := Int.emod_nonneg q (show (1 + (P : Int)) ≠ 0 by omega); omega⟩
      have hkP : k ≤ P := by
        have := Int.emod_lt_of_pos q (show 0 < 1 + (P : Int) by omega)
        omega
      rw [hk]
      have hin := lost_in HT.out (k := k) (by show k ≤ (partsL letter).length; rw [HP.out]; exact hkP)
      have hend := lost_end HT.out (k := k) (by show k ≤ (partsL letter).length; rw [HP.out]; exact hkP) (by show (2 : Int) < 1000000; omega) (by show letter.size ≤ _; rw [HTX.out]; omega) ⟨7, [pSeat letter], []⟩ (x := pSeat letter) ⟨rfl, rfl, by simp, fun x hx => by cases hx; rfl⟩ ⟨rfl, rfl, rfl, rfl, rfl⟩ ⟨rfl, rfl, rfl⟩ rfl
      change LostEnd (pTrip letter) k _ (lostAt (newHost 8) (pTrip letter).msgs k ((partsL letter).length + 1)) at hend
      change ∀ i, i ≤ (partsL letter).length + 1 → HostIn (2 + i) i (lostAt (newHost 8) (pTrip letter).msgs k i) at hin
      rw [HP.out] at hend hin
      have HIN := Lib.hid hin
      have HEND := Lib.hid hend
      have HKP := Lib.hid hkP
      clear hin hend hkP hk j0 hx q1 q2
      go_wp2_with fail
      go_loopw [15] (fun s15 wr => ∃ i : Nat, i ≤ P + 1 ∧ s15 = .int .i64 i ∧ PW w2 wr ba bb ⟨7, [pSeat letter], []⟩ (lostAt (newHost 8) (pTrip letter).msgs k i) [(.slice (some ⟨g, off, none⟩) (1 + P) cap, (pTrip letter).msgs)]) (fun s15 _ => P + 1 - (intOf s15).toNat)
      case atStart => exact ⟨0, Nat.zero_le _, rfl, H10.out⟩
      case round =>
        obtain ⟨i, hi, rfl, H11⟩ := hrel
        have i0 : (0 : Int) ≤ (i : Int) := Int.natCast_nonneg _
        have HH := Lib.hid H11
        clear H11
        by_cases hlt : i < P + 1
        · have hlt2 : (i : Int) < 1 + (P : Int) := by omega
          have hil : i < (pTrip letter).msgs.length := by rw [HLEN.out]; omega
          have hla : lostAt (newHost 8) (pTrip letter).msgs k (i + 1) = if i = k then lostAt (newHost 8) (pTrip letter).msgs k i else receiveM (lostAt (newHost 8) (pTrip letter).msgs k i) (pTrip letter).msgs[i] := by
            rw [lostAt, List.getD_eq_getElem?_getD, List.getElem?_eq_getElem hil]; rfl
          have HLT := Lib.hid hlt
          clear hlt
          by_cases hik : i = k
          · rw [if_pos hik] at hla
            subst hik
            have HLA := Lib.hid hla
            clear hla
            go_wp2_with fail
            go_roundw
            case rel => exact ⟨i + 1, HLT.out, by go_num, by rw [HLA.out]; exact HH.out⟩
            case measure => have := HLT.out; simp [intOf]; omega
          · rw [if_neg hik] at hla
            have hne : ((i : Int) != (k : Int)) = true := by simpa using (fun e => hik (by omega))
            have hrow := HH.out.row (List.mem_cons_self ..)
            have cc : ∀ (x : Nat) (y : Value), (pTrip letter).msgs[i].cells[x]? = some y → wr.cell? ⟨g, off + i * 8 + x, none⟩ = some y := fun x y hxy => by
              have := hrow.cellAt hil (j := x) (u := y) hxy
              rw [← Nat.add_assoc] at this
              exact this
            have hmi := (pTrip letter).msgIn HT.out 1000 (by show (2 : Int) ≤ 1000; omega) _ (List.getElem_mem hil)
            obtain ⟨Fb, HB, hop⟩ := HH.out.swap.op
            have hrc := receive_any wr bb 0 _ Fb (pTrip letter).msgs[i] HB (by have := hmi.page; omega) (by have := hmi.data; omega) ((HIN.out i hi).ok (by omega) (by omega))
            rw [← hla] at hrc
            generalize (pTrip letter).msgs[i] = m at *
            have c0 := cc 0 _ rfl
            have c1 := cc 1 _ rfl
            have c2 := cc 2 _ rfl
            have c3 := cc 3 _ rfl
            have c4 := cc 4 _ rfl
            have c5 := cc 5 _ rfl
            have c6 := cc 6 _ rfl
            have c7 := cc 7 _ rfl
            rw [Nat.add_zero] at c0
            unfold Msg.cells at hrc
            have HRC := Lib.hid hrc
            have HOP := Lib.hid hop
            clear cc hrow hmi hrc hop hla hil hik HB hi
            go_wp2_with fail
            refine HRC.out.mono ?_
            rintro e wx ⟨rfl, hp⟩
            have H12 := (HOP.out _ _ hp).swap
            have HH2 := Lib.hid H12
            clear H12 hp HOP HRC c0 c1 c2 c3 c4 c5 c6 c7
            go_wp2_with fail
            go_roundw
            case rel => exact ⟨i + 1, HLT.out, by go_num, HH2.out⟩
            case measure => have := HLT.out; simp [intOf]; omega
        · have hiP : i = P + 1 := by omega
          subst hiP
          have hx : ¬ (((P + 1 : Nat) : Int) < 1 + (P : Int)) := by omega
          clear hlt hi i0
          obtain ⟨m1, re, r1, r2, r3, r4⟩ := LostEnd.sum HT.out HEND.out (by show (2 : Int) ≤ 1000; omega) (by show k ≤ (partsL letter).length; rw [HP.out]; exact HKP.out)
          change runsM _ ⟨#[112]⟩ = _ at r1
          have hbf := HEND.out.bfew
          have hbk := HEND.out.bok
          have hb2k := HEND.out.b2ok
          have hak := HEND.out.aok
          clear HIN HEND
          generalize lostAt (newHost 8) (pTrip letter).msgs k (P + 1) = b at *
          obtain ⟨Fb, HB, -⟩ := HH.out.swap.op
          have hbe : (decide (k = 0) == ((k : Int) == 0)) = true := by
            by_cases h0 : k = 0
            · subst h0; rfl
            · rw [decide_eq_false h0, show ((k : Int) == 0) = false by simpa using h0]; rfl
          have HR4 := Lib.hid r4
          have HR2 := Lib.hid r2
          have HR3 := Lib.hid r3
          have HBF := Lib.hid hbf
          have HBK := Lib.hid hbk
          have HB2 := Lib.hid hb2k
          have HAK := Lib.hid hak
          have hrn := runs_any wr bb 0 b Fb ⟨#[112]⟩ HB
          rw [r1] at hrn
          clear r1 r2 r3 r4 hbf hbk hb2k hak HB
          have HRN := Lib.hid hrn
          clear hrn
          go_wp2_with fail
          refine HRN.out.mono ?_
          rintro e wa ⟨rfl, hca⟩
          have Pa := HH.out.still hca
          have hle1 : (letter.toList == letter.toList) = true := by simp
          have hle2 : (letter.toList != letter.toList) = false := by simp
          clear hca HRN
          obtain ⟨Fb2, HB, hop⟩ := Pa.swap.op
          have HOP := Lib.hid hop
          clear hop Pa
          go_wp2_with fail
          refine (tick_any wa bb 0 b Fb2 HB HBK.out HBF.out).mono ?_
          rintro e wb ⟨rfl, hp⟩
          have Pb := HOP.out _ _ hp
          clear HOP hp HB
          obtain ⟨Fb3, HB, hop⟩ := Pb.send
          rw [HR2.out] at hop
          have HOP := Lib.hid hop
          clear hop Pb
          have hsd := send_any wb bb 0 _ Fb3 HB
          rw [HR2.out] at hsd
          have HSD := Lib.hid hsd
          clear hsd HB
          go_wp2_with fail
          refine HSD.out.mono ?_
          rintro e wc ⟨v, F1, G1, rfl, h1, s1, hown, hG, -⟩
          have Pc := (HOP.out _ _ _ _ h1 s1 hown hG).swap
          clear h1 s1 hown hG HOP HSD
          have hrow := Pc.row (List.mem_cons_self ..)
          obtain ⟨g1, off1, cap1, rfl, -, -⟩ := RowAt.addr hrow (by show 0 < 1; omega)
          have HC1 := Lib.hid Pc
          clear Pc hrow
          simp only [List.length_cons, List.length_nil, Nat.zero_add] at HC1 ⊢
          go_wp2_with fail
          generalize ({ tickM b with out := [] } : Host) = b2 at *
          generalize (⟨7, [pSeat letter], []⟩ : Host) = a at *
          clear HH
          go_loopw [19] (fun s19 wr => ∃ (i : Nat) (a2 : Host), i ≤ 1 ∧ s19 = .int .i64 i ∧ PW w2 wr ba bb a2 b2 [(.slice (some ⟨g1, off1, none⟩) 1 cap1, [m1]), (.slice (some ⟨g, off, none⟩) (1 + P) cap, (pTrip letter).msgs)] ∧ Hid (i = 0 ∧ a2 = a ∨ i = 1 ∧ a2 = receiveM a m1)) (fun s19 _ => 1 - (intOf s19).toNat)
          case atStart => exact ⟨0, a, Nat.zero_le _, rfl, HC1.out, Lib.hid (.inl ⟨rfl, rfl⟩)⟩
          case round =>
            obtain ⟨i, a2, hi, rfl, hpw, HI⟩ := hrel
            have HPW := Lib.hid hpw
            clear HC1 hpw
            by_cases h0 : i = 0
            · subst h0
              have ha2 : a2 = a := by rcases HI.out with x | x; exact x.2; exact absurd x.1 (by decide)
              subst ha2
              have hrow := HPW.out.row (List.mem_cons_self ..)
              have cc : ∀ (x : Nat) (y : Value), m1.cells[x]? = some y → wr.cell? ⟨g1, off1 + x, none⟩ = some y := fun x y hxy => by
                have := hrow.cellAt (i := 0) (by show 0 < 1; omega) (j := x) (u := y) hxy
                rw [Nat.zero_mul, Nat.zero_add] at this
                exact this
              obtain ⟨Fa, HA, hop⟩ := HPW.out.op
              have hrc := receive_any wr ba 0 _ Fa m1 HA (by have := HR3.out.page; omega) (by have := HR3.out.data; omega) HAK.out
              have HOP := Lib.hid hop
              have c0 := cc 0 _ rfl
              have c1 := cc 1 _ rfl
              have c2 := cc 2 _ rfl
              have c3 := cc 3 _ rfl
              have c4 := cc 4 _ rfl
              have c5 := cc 5 _ rfl
              have c6 := cc 6 _ rfl
              have c7 := cc 7 _ rfl
              rw [Nat.add_zero] at c0
              unfold Msg.cells at hrc
              have HRC := Lib.hid hrc
              clear cc hrow hrc hop HA hi
              go_wp2_with fail
              refine HRC.out.mono ?_
              rintro e wx ⟨rfl, hp⟩
              have H12 := HOP.out _ _ hp
              have HH2 := Lib.hid H12
              clear H12 hp HOP HRC c0 c1 c2 c3 c4 c5 c6 c7
              go_wp2_with fail
              go_roundw
              case rel => exact ⟨1, _, by omega, rfl, HH2.out, Lib.hid (.inr ⟨rfl, rfl⟩)⟩
              case measure => simp [intOf]
            · have h1 : i = 1 := by omega
              subst h1
              have ha2 : a2 = receiveM a m1 := by rcases HI.out with x | x; exact absurd x.1 (by decide); exact x.2
              subst ha2
              rw [show ((1 : Nat) : Int) = 1 from rfl]
              clear h0 hi HI HAK
              obtain ⟨Fa, HA, hop⟩ := HPW.out.send
              have hsd := send_any wr ba 0 _ Fa HA
              have HSD := Lib.hid hsd
              have HOP := Lib.hid hop
              clear hsd HA hop HPW
              go_wp2_with fail
              refine HSD.out.mono ?_
              rintro e wd ⟨v, F1, G1, rfl, h1, s1, hown, hG, -⟩
              have Pd := HOP.out _ _ _ _ h1 s1 hown hG
              clear h1 s1 hown hG HOP HSD
              generalize ({ receiveM a m1 with out := [] } : Host) = a3 at *
              have hdg := digits_pos n
              have HDG := Lib.hid (fun W => hdg W (by have := HN6.out; omega))
              clear hdg
              rcases HR4.out with ⟨hk0, h2, h3⟩ | ⟨hk0, h2, h3⟩
              · subst hk0
                rw [h2] at Pd
                have hrow := Pd.row (List.mem_cons_self ..)
                obtain ⟨ad, capd, rfl, -, -⟩ := RowAt.slice hrow
                have HPD := Lib.hid Pd
                have H3 := Lib.hid h3
                clear Pd hrow h2 h3 HR4
                simp only [List.length_nil]
                go_wp2_with fail
                refine wp_region_later (by kernel_rfl) (by kernel_rfl) ?_
                repeat (go_big_quiet_step (fail))
                refine wpQuiet_nil ?_
                rintro _ ⟨x, rfl⟩
                have Pe := HPD.out.still x.chg
                generalize x.at_ = we at *
                have HPE := Lib.hid Pe
                clear Pe HPD
                go_wp2_with fail
                go_loopw [21] (fun s21 wr => s21 = .int .i64 0 ∧ PW w2 wr ba bb a3 b2 [(.slice ad 0 capd, []), (.slice (some ⟨g1, off1, none⟩) 1 cap1, [m1]), (.slice (some ⟨g, off, none⟩) (1 + P) cap, (pTrip letter).msgs)]) (fun _ _ => 0)
                case atStart => exact ⟨rfl, HPE.out⟩
                case round =>
                  obtain ⟨rfl, hq⟩ := hrel
                  have HQ := Lib.hid hq
                  clear hq HPE
                  obtain ⟨Fb4, HB, -⟩ := HQ.out.swap.op
                  have hlt := letter_any wr bb 0 _ Fb4 ⟨#[112]⟩ HB
                  rw [H3.out] at hlt
                  have HLT := Lib.hid hlt
                  clear hlt HB
                  go_wp2_with fail
                  refine HLT.out.mono ?_
                  rintro e wf ⟨rfl, hcf⟩
                  have Pf := HQ.out.still hcf
                  have HF := Lib.hid Pf.chg
                  clear hcf Pf HLT HQ
                  go_wp2_with fail
                  refine (HDG.out _).mono ?_
                  rintro e wg ⟨t, rfl, ht, ht2, rfl⟩
                  have ht3 : (0 : Int) < (t.size : Int) := by omega
                  go_wp2_with fail
                  go_ret
                  exact ⟨by simp, (HC.out.trans' HF.out).below (Nat.le_refl _) (fun _ h => h.elim)⟩
              · rw [h2] at Pd
                have hkl : k < (pTrip letter).msgs.length := by rw [HLEN.out]; have := HKP.out; omega
                have hmk : (pTrip letter).msgs[k] = (pTrip letter).part (k - 1) := by
                  obtain ⟨j, rfl⟩ : ∃ j, k = j + 1 := ⟨k - 1, by omega⟩
                  exact (pTrip letter).msgs_succ j hkl
                have hrow := Pd.row (List.mem_cons_self ..)
                have hrow2 := Pd.row (List.mem_cons_of_mem _ (List.mem_cons_of_mem _ (List.mem_cons_self ..)))
                obtain ⟨gd, od, capd, rfl, -, -⟩ := RowAt.addr hrow (by show 0 < 1; omega)
                have hmi := (pTrip letter).msgIn HT.out 1000 (by show (2 : Int) ≤ 1000; omega) _ (List.getElem_mem hkl)
                rw [hmk] at hmi
                generalize (pTrip letter).part (k - 1) = m2 at *
                have cc : ∀ (x : Nat) (y : Value), m2.cells[x]? = some y → wd.cell? ⟨gd, od + x, none⟩ = some y := fun x y hxy => by
                  have := hrow.cellAt (i := 0) (by show 0 < 1; omega) (j := x) (u := y) hxy
                  rw [Nat.zero_mul, Nat.zero_add] at this
                  exact this
                have dd : ∀ (x : Nat) (y : Value), m2.cells[x]? = some y → wd.cell? ⟨g, off + k * 8 + x, none⟩ = some y := fun x y hxy => by
                  have := hrow2.cellAt hkl (j := x) (u := y) (by rw [hmk]; exact hxy)
                  rw [← Nat.add_assoc] at this
                  exact this
                have c0 := cc 0 _ rfl
                have d0 := dd 0 _ rfl
                rw [Nat.add_zero] at c0 d0
                have l0 := Later.cell c0
                have l1 := Later.cell (cc 1 _ rfl)
                have l2 := Later.cell (cc 2 _ rfl)
                have l3 := Later.cell (cc 3 _ rfl)
                have l4 := Later.cell (cc 4 _ rfl)
                have l5 := Later.cell (cc 5 _ rfl)
                have l6 := Later.cell (cc 6 _ rfl)
                have l7 := Later.cell (cc 7 _ rfl)
                have n0 := Later.cell d0
                have n1 := Later.cell (dd 1 _ rfl)
                have n2 := Later.cell (dd 2 _ rfl)
                have n3 := Later.cell (dd 3 _ rfl)
                have n4 := Later.cell (dd 4 _ rfl)
                have n5 := Later.cell (dd 5 _ rfl)
                have n6 := Later.cell (dd 6 _ rfl)
                have n7 := Later.cell (dd 7 _ rfl)
                have HPD := Lib.hid Pd
                have H3 := Lib.hid h3
                have HMI := Lib.hid hmi
                have k1 : decide ((0 : Int) < (k : Int)) = true := by simp; omega
                have k1b : decide (0 < k) = true := by simp; omega
                have k2 : (k : Int) < 1 + (P : Int) := by have := HKP.out; omega
                clear Pd hrow hrow2 h2 h3 HR4 cc dd hmk hmi hkl c0 d0
                simp only [List.length_nil, List.length_cons, Nat.zero_add]
                go_wp2_with fail
                refine wp_region_later (by kernel_rfl) (by kernel_rfl) ?_
                repeat (go_big_quiet_step (fail))
                refine wpQuiet_nil ?_
                rintro _ ⟨x, rfl⟩
                have Pe := HPD.out.still x.chg
                clear l0 l1 l2 l3 l4 l5 l6 l7 n0 n1 n2 n3 n4 n5 n6 n7
                generalize x.at_ = we at *
                have HPE := Lib.hid Pe
                clear Pe HPD
                go_wp2_with fail
                go_loopw [21] (fun s21 wr => ∃ (i : Nat) (b3 : Host), i ≤ 1 ∧ s21 = .int .i64 i ∧ PW w2 wr ba bb a3 b3 [(.slice (some ⟨gd, od, none⟩) 1 capd, [m2]), (.slice (some ⟨g1, off1, none⟩) 1 cap1, [m1]), (.slice (some ⟨g, off, none⟩) (1 + P) cap, (pTrip letter).msgs)] ∧ Hid (i = 0 ∧ b3 = b2 ∨ i = 1 ∧ b3 = receiveM b2 m2)) (fun s21 _ => 1 - (intOf s21).toNat)
                case atStart => exact ⟨0, b2, Nat.zero_le _, rfl, HPE.out, Lib.hid (.inl ⟨rfl, rfl⟩)⟩
                case round =>
                  obtain ⟨i, b3, hi, rfl, hpw, HI⟩ := hrel
                  have HQ := Lib.hid hpw
                  clear HPE hpw
                  by_cases h0 : i = 0
                  · subst h0
                    have hb3 : b3 = b2 := by rcases HI.out with x | x; exact x.2; exact absurd x.1 (by decide)
                    subst hb3
                    have hrow := HQ.out.row (List.mem_cons_self ..)
                    have cc : ∀ (x : Nat) (y : Value), m2.cells[x]? = some y → wr.cell? ⟨gd, od + x, none⟩ = some y := fun x y hxy => by
                      have := hrow.cellAt (i := 0) (by show 0 < 1; omega) (j := x) (u := y) hxy
                      rw [Nat.zero_mul, Nat.zero_add] at this
                      exact this
                    obtain ⟨Fb5, HB, hop⟩ := HQ.out.swap.op
                    have hrc := receive_any wr bb 0 _ Fb5 m2 HB (by have := HMI.out.page; omega) (by have := HMI.out.data; omega) HB2.out
                    have HOP := Lib.hid hop
                    have c0 := cc 0 _ rfl
                    have c1 := cc 1 _ rfl
                    have c2 := cc 2 _ rfl
                    have c3 := cc 3 _ rfl
                    have c4 := cc 4 _ rfl
                    have c5 := cc 5 _ rfl
                    have c6 := cc 6 _ rfl
                    have c7 := cc 7 _ rfl
                    rw [Nat.add_zero] at c0
                    unfold Msg.cells at hrc
                    have HRC := Lib.hid hrc
                    clear cc hrow hrc hop HB hi
                    go_wp2_with fail
                    refine HRC.out.mono ?_
                    rintro e wx ⟨rfl, hp⟩
                    have H12 := (HOP.out _ _ hp).swap
                    have HH2 := Lib.hid H12
                    clear H12 hp HOP HRC c0 c1 c2 c3 c4 c5 c6 c7
                    go_wp2_with fail
                    go_roundw
                    case rel => exact ⟨1, _, by omega, rfl, HH2.out, Lib.hid (.inr ⟨rfl, rfl⟩)⟩
                    case measure => simp [intOf]
                  · have h1 : i = 1 := by omega
                    subst h1
                    have hb3 : b3 = receiveM b2 m2 := by rcases HI.out with x | x; exact absurd x.1 (by decide); exact x.2
                    subst hb3
                    clear h0 hi HI HB2
                    obtain ⟨Fb4, HB, -⟩ := HQ.out.swap.op
                    have hlt := letter_any wr bb 0 _ Fb4 ⟨#[112]⟩ HB
                    rw [H3.out] at hlt
                    have HLT := Lib.hid hlt
                    clear hlt HB
                    go_wp2_with fail
                    refine HLT.out.mono ?_
                    rintro e wf ⟨rfl, hcf⟩
                    have Pf := HQ.out.still hcf
                    have HF := Lib.hid Pf.chg
                    clear hcf Pf HLT HQ
                    go_wp2_with fail
                    refine (HDG.out _).mono ?_
                    rintro e wg ⟨t, rfl, ht, ht2, rfl⟩
                    have ht3 : (0 : Int) < (t.size : Int) := by omega
                    go_wp2_with fail
                    go_ret
                    exact ⟨by simp, (HC.out.trans' HF.out).below (Nat.le_refl _) (fun _ h => h.elim)⟩
set_option maxRecDepth 100000 in
theorem migrateParts_lifted (os : Os) (started : os.Started) (H : Type) (enc : TypeId × Value → H) :
    ReturnsInHanded {} Try.checked os 7 .any (Rows.migratePartsSpec.pre6 enc Try.prog Try.f7 [] false) (Rows.migratePartsSpec.post enc Try.prog Try.f7 false true false false) := by
  refine law_lift (C := Try.checked) (tb := 4) started Try.own Try.laidOut (by kernel_rfl) Try.func7 (by kernel_rfl) rfl Try.underlying4 rfl ?_
    (ChangeSpec.witness6 (enc := enc) (C := Try.checked) false ⟨#[], #[.int .u16 0, .int .u8 0], []⟩ 8 (by kernel_rfl) (by kernel_rfl) (by kernel_rfl) (by kernel_rfl)) ?_
  · intro ds h
    match ds, h with
    | [_, _], _ => rfl
  · intro W base vs ds ps hval hA hsz
    have hp : Try.f7.params.toList = [51, 5] := by rw [Try.params7]
    rw [hp] at hval hA hsz
    obtain ⟨v0, vs0, d0, ds0, p0, q0, rfl, rfl, rfl, h0, r0⟩ := trodAll_cons hA
    obtain ⟨v1, vs1, d1, ds1, p1, q1, rfl, rfl, rfl, h1, r1⟩ := trodAll_cons r0
    obtain ⟨rfl, rfl, rfl⟩ := trodAll_nil r1
    obtain ⟨a0, rfl, rfl, rfl, w0⟩ := open_int Try.underlying51 (hval 0 51 v0 rfl rfl) h0
    obtain ⟨a1, rfl, rfl, rfl, w1⟩ := open_int Try.underlying5 (hval 1 5 v1 rfl rfl) h1
    exact migrateParts_walk a0 a1 W (by simpa [Lit.wf] using w0) (by simpa [Lit.wf] using w1)

theorem migrateParts_holds : Rows.MigratePartsSaid :=
  OpenClaim.holds_of_wide 7 Try.f7 rfl rfl rfl rfl rfl rfl rfl ⟨rfl, rfl, rfl, rfl, rfl⟩ rfl rfl rfl rfl rfl (by kernel_rfl) Try.func7 (by kernel_rfl)
    (of_decide_eq_true (by kernel_rfl)) (by unfold Func.isWrapper; first | (rw [if_pos (by decide +kernel)]; kernel_rfl) | (rw [if_neg (by decide +kernel)]; exact ⟨rfl, rfl⟩))
    (fun os started H enc _ => migrateParts_lifted os started H enc)
#print axioms migrateParts_holds
end Go.Proofs.Ytkoopagjjmdodaa
