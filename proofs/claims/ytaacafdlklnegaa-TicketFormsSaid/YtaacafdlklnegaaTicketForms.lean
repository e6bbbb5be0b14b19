/-
  TicketForms: a state that is not well formed has no bytes; for all calls.
-/
import Derived.Test.YtaacafdlklnegaaTikx
import Derived.Deep.CutBlock
import Derived.Deep.RegionLaw
namespace Go.Proofs.Ytaacafdlklnegaa
set_option linter.unusedVariables false
open Go.ChangeShapes Go.WideShapes Go.ChangeAt Go.RowKit
open Go.ChangeMaps (open_string shut_string)

theorem RowAt.take {w : World} {e size : Nat} {g off n cap : Nat} {xs : List Value} (h : RowAt w e size (.slice (some ⟨g, off, none⟩) n cap) n xs) (k : Nat) (hk : k ≤ n) : RowAt w e size (.slice (some ⟨g, off, none⟩) k cap) k (xs.take (k * size)) := by
  rcases h.2 with ⟨hv, _⟩ | ⟨g', off', cap', cur, hv, hg, h1, h2, h3, h4⟩
  · simp at hv
  · simp only [Value.slice.injEq, Option.some.injEq, Addr.mk.injEq] at hv
    obtain ⟨⟨rfl, rfl, _⟩, _, rfl⟩ := hv
    have hm : k * size ≤ n * size := Nat.mul_le_mul_right _ hk
    have hl := h.1
    refine ⟨by rw [List.length_take]; omega, .inr ⟨g, off, cap, cur, rfl, hg, by omega, h2, h3, ?_⟩⟩
    rw [← h4, List.take_take, Nat.min_eq_left hm]
/-- Behind the calls. -/
structure FInv (w wr : World) (b i : Nat) (s : State) (F : List Nat) : Prop where
  st : Own stateR w wr b 0 s F
  reach : Reach s i
  named : Named s

set_option maxHeartbeats 6400000 in
set_option maxRecDepth 100000 in
theorem ticketForms_ok (w : World) (v : Value) (ops : List COp) (how : Int) (hhow : 0 ≤ how ∧ how ≤ 255) (h : ArgRows w v 6 (ops.map COp.cells)) (ho : ∀ o ∈ ops, COpOk o) (hf : fewB ops 40 = true) :
    Calls Try.prog 8 #[v, .int .u8 how] w fun e w' => e = .returned (.bool true) ∧ Below w.heap.size w w' := by
  have hft := few_text hf
  have HF := Lib.hid hf
  have HA := Lib.hid h
  have HO := Lib.hid ho
  have HL := Lib.hid hft
  have HHOW := Lib.hid hhow
  have hln : (ops.length : Int) ≤ 9223372036854775807 := by have := hft.1; omega
  obtain ⟨a, cap, rfl, -⟩ := h
  clear hf ho hft hhow
  rw [List.length_map] at HA
  go_enter Try.func8, Try.ntmps8
  go_wp2_with fail
  refine (awake_any w).mono ?_
  rintro e w1 ⟨rfl, hc1⟩
  go_wp2_with fail
  refine (few_any w1 ops _ 40 (by decide) (HA.out.keep hc1) HO.out).mono ?_
  rintro e w2 ⟨rfl, rfl⟩
  rw [HF.out]
  have H1 := (Own.made (A := stateR) w1 27 _ newState (newState_own w1)).from hc1
  have HI0 : FInv w (w1.alloc (.cells #[.slice none 0 0, .slice none 0 0, .slice none 0 0] 27)) w1.heap.size 0 newState [] := ⟨H1, reach_new, named_new⟩
  clear H1
  go_wp2_with fail
  generalize w1.alloc (.cells #[.slice none 0 0, .slice none 0 0, .slice none 0 0] 27) = w3 at *
  generalize w1.heap.size = b at *
  go_loopw [6] (fun u6 wr => ∃ (i : Nat) (s : State) (F : List Nat), i ≤ ops.length ∧ u6 = .int .i64 i ∧ FInv w wr b i s F) (fun u6 _ => ops.length - (intOf u6).toNat)
  case atStart => exact ⟨0, newState, [], Nat.zero_le _, rfl, HI0⟩
  case round =>
    obtain ⟨i, s, F, hil, rfl, HI⟩ := hrel
    clear HI0
    by_cases hlt : i < ops.length
    · as_aux_lemma =>
        obtain ⟨g, off, rfl, c0, c1, c2, c3, c4, c5⟩ := argOp HA.out HI.st.chg hlt
        have HX : Hid (COpOk ops[i]) := Lib.hid (HO.out _ (List.getElem_mem hlt))
        have HTX : Hid (ops[i].text.size ≤ 1000) := Lib.hid (HL.out.2 _ (List.getElem_mem hlt))
        have h0 : (0 : Int) ≤ (i : Int) := Int.natCast_nonneg _
        have h1 : (i : Int) < (ops.length : Int) := by omega
        have HI100 : Hid (i ≤ 40) := Lib.hid (by have := HL.out.1; omega)
        have HLT := Lib.hid hlt
        have wi : IntKind.i64.wrap ((i : Int) + 1) = (i : Int) + 1 := IntWalk.i64_in _ (by omega)
        generalize ops[i] = x at *
        clear hlt
        go_wp2_with fail
        refine (do_any _ b 0 s F x i (by have := HI100.out; omega) HX.out HI.reach.small HI.st.here).mono ?_
        rintro e w5 ⟨vl, vn, F', rfl, hh, hs, rl, rn, hown⟩
        have hreach := HI.reach.do_ x HX.out HTX.out
        have hnamed := HI.named.do_ x
        have HST := Lib.hid (HI.st.step hh hs)
        obtain ⟨pl, cl, rfl, -, -⟩ := rl.slice
        obtain ⟨pn, cn, rfl, -, -⟩ := rn.slice
        generalize (doM s x).1 = T at *
        generalize (doM s x).2 = s' at *
        obtain ⟨te, tl, td, tn⟩ := T
        have HR := Lib.hid hreach
        have HNM := Lib.hid hnamed
        clear hh hs hreach hnamed c0 c1 c2 c3 c4 c5 HI rl rn hown
        dsimp only
        go_wp2_with fail
        go_roundw
        case rel => exact ⟨i + 1, s', F', HLT.out, by go_num, HST.out, HR.out, HNM.out⟩
        case measure => have := HLT.out; simp [intOf]; omega
    · as_aux_lemma =>
        obtain rfl : i = ops.length := by omega
        have HL40 : Hid (ops.length ≤ 40) := Lib.hid HL.out.1
        have HR := Lib.hid HI.reach
        have HNM := Lib.hid HI.named
        clear hlt hil
        go_wp2_with fail
        refine (claim_any _ b 0 s F extra 3 HI.st.here (by decide) ⟨by have := HR.out.small.owners; have := HL40.out; omega⟩).mono ?_
        rintro e w4 ⟨rfl, hp⟩
        rw [HNM.out.claimX] at hp ⊢
        obtain ⟨F4, H4⟩ := hp.own HI.st
        clear HI hp
        go_wp2_with fail
        refine (ask_any _ b 0 _ F4 extra 3 7 reqQ H4.here ⟨by have := HR.out.small.entries; have := HL40.out; show s.entries.length < _; omega⟩ ⟨by have := HR.out.small.sent; have := HL40.out; show s.sent.length < _; omega⟩).mono ?_
        rintro e w5 ⟨rfl, hp⟩
        rw [HNM.out.askX] at hp ⊢
        obtain ⟨F5, H5⟩ := hp.own H4
        clear H4 hp
        have HSL : Hid (s.sent.length = s.entries.length) := Lib.hid (by rw [HR.out.formed.sent, List.length_map])
        have HN41 : Hid (s.entries.length ≤ 40 ∧ s.owners.length ≤ 40) := Lib.hid (by have := HR.out.small.entries; have := HR.out.small.owners; have := HL40.out; omega)
        have hel : (addX s).entries.length = s.entries.length + 1 := by unfold addX; simp
        have HEL := Lib.hid hel
        have HGE : Hid (∃ h : s.entries.length < (addX s).entries.length, (addX s).entries[s.entries.length] = lastE) := Lib.hid ⟨by omega, by unfold addX; simp⟩
        obtain ⟨g1, off1, cap1, q1⟩ := H5.here.rowAt stateR_entries (by show 0 < 3; decide) (by show 0 < (addX s).entries.length; omega)
        rw [hel] at q1
        have HBG1 : Hid (g1 ≠ b) := Lib.hid (by
          obtain ⟨_, _, hgb, -⟩ := H5.here.rowElem stateR_entries (by show 0 < 3; decide) (by rw [q1]) (i := 0) (by show 0 < (addX s).entries.length; omega)
          exact hgb)
        have wN : IntKind.i64.wrap (s.entries.length : Int) = (s.entries.length : Int) := IntWalk.i64_in _ (by have := HN41.out; omega)
        obtain ⟨k, hk8, hkt⟩ : ∃ k : Nat, k < 8 ∧ how.tmod 8 = (k : Int) := ⟨(how % 8).toNat, by omega, by rw [Int.tmod_eq_emod_of_nonneg HHOW.out.1]; omega⟩
        have HK8 := Lib.hid hk8
        have HH0 := HHOW.out.1
        clear hel hk8
        go_upto_block 2 with fail
        go_cut [] (fun wx => ∃ F', Own stateR w wx b 0 (badM s k) F')
        case first =>
          have n0 : (0 : Int) ≤ (s.entries.length : Int) := Int.natCast_nonneg _
          have n1 : (s.entries.length : Int) < (s.entries.length : Int) + 1 := by omega
          have h8 := HK8.out
          have hcase : k = 0 ∨ k = 1 ∨ k = 2 ∨ k = 3 ∨ k = 4 ∨ k = 5 ∨ k = 6 ∨ k = 7 := by omega
          clear h8
          rcases hcase with rfl | rfl | rfl | rfl | rfl | rfl | rfl | rfl
          · as_aux_lemma =>
              have hlen : 0 < (addX s).owners.length := by unfold addX; simp
              obtain ⟨g, off, cap, hv⟩ := H5.here.rowAt stateR_owners (by show 0 < 3; decide) hlen
              obtain ⟨G, HO, -, -, -, hback⟩ := H5.here.rowElem stateR_owners (by show 0 < 3; decide) hv hlen
              rw [Nat.add_zero] at hv
              change Here ownerR _ g (off + 0 * 2) (addX s).owners[0] G at HO
              obtain ⟨o0, o1⟩ := ownerCells HO
              have fz := HO.frozen (off + 0 * 2 + 1)
              obtain ⟨G2, HO2, hs2⟩ := HO.setField ownerR_epoch (y := 0) (v := .int .i64 0) rfl
              have hp := (hback _ _ _ HO2 hs2).1.own H5
              rw [Nat.zero_mul, Nat.add_zero] at o0 o1 fz hp
              have HP := Lib.hid hp
              have HQ : Hid ({ addX s with owners := (addX s).owners.set 0 { (addX s).owners[0] with epoch := 0 } } = badM s 0) := Lib.hid (by unfold badM; simp [List.getD_eq_getElem?_getD, hlen])
              have hl1 : (0 : Int) < ((addX s).owners.length : Int) := by omega
              clear HO HO2 hs2 hback hp
              go_wp2_with fail
              go_meet
              rw [← HQ.out]
              exact HP.out
          · as_aux_lemma =>
              have hlen : 0 < (addX s).owners.length := by unfold addX; simp
              have hl41 : (addX s).owners.length ≤ 41 := by have := HN41.out; unfold addX; simp; omega
              have HE := Lib.hid elem_owner
              obtain ⟨p, cap, xs, Fs, Fr, d0, hopen, fz, haft, hfin⟩ := H5.here.fieldAppending stateR_owners (by show 0 < 3; decide)
              obtain ⟨g, off, cap', hv⟩ := H5.here.rowAt stateR_owners (by show 0 < 3; decide) hlen
              rw [d0] at hv
              simp only [Option.some.injEq, Value.slice.injEq] at hv
              obtain ⟨rfl, -, rfl⟩ := hv
              obtain ⟨G, HO, -, -, -, -⟩ := H5.here.rowElem stateR_owners (by show 0 < 3; decide) d0 hlen
              change Here ownerR _ g (off + 0 * 2) (addX s).owners[0] G at HO
              obtain ⟨o0, -⟩ := ownerCells HO
              rw [Nat.zero_mul, Nat.add_zero] at o0
              rw [Nat.add_zero] at d0 fz haft hfin
              have HQ : Hid ({ addX s with owners := (addX s).owners ++ [⟨(addX s).owners[0].page, 5⟩] } = badM s 1) := Lib.hid (by unfold badM; simp [List.getD_eq_getElem?_getD, hlen])
              have hl1 : (0 : Int) < ((addX s).owners.length : Int) := by omega
              generalize (addX s).owners[0].page = pg at *
              have HL41 := Lib.hid hl41
              clear hl41 HO
              go_wp2_with fail
              have hrowA := (hopen.row.alloc (.cells #[.string pg, .int .i64 5] 67)).drew
              have hchA := (Chg.alloc (fun _ => False) w5 (.cells #[.string pg, .int .i64 5] 67)).drewR
              have HAFT := Lib.hid haft
              have HFIN := Lib.hid hfin
              have hgA : (w5.alloc (.cells #[.string pg, .int .i64 5] 67)).drew.heap[w5.heap.size]? = some (.cells [.string pg, .int .i64 5].toArray 67 (0, 0)) := alloc_block w5 _
              have HGA := Lib.hid hgA
              have d0A := hchA.cell d0
              have o0A := hchA.cell o0
              clear haft hfin hgA hopen
              go_region_law
                ((refine step_append_elem (by rfl) _ _ _ (by rfl) 67 2 24 Try.underlying23 HE.out (by decide) _ (addX s).owners.length xs.flatten (by rfl) hrowA [.string pg, .int .i64 5] rfl w5.heap.size 67 (0, 0) (by rfl) HGA.out (by simp [Value.oneCell']) (by have := HL41.out; unfold maxLen; omega) (by have := HL41.out; omega) ?_; intro a3 n3 c3 w6 hrow3 hchg3 hold3; obtain ⟨cc3, f3⟩ := HAFT.out _ _ hchA hchg3))
              all_goals (
                go_wp2_with fail
                go_meet
                rw [← HQ.out]
                exact (HFIN.out _ _ [.string pg, .int .i64 5] ⟨pg, 5⟩ [] _ hchA ⟨rfl, rfl⟩ (by simp) (by simp) hrow3 hchg3 hold3).own H5)
          · as_aux_lemma =>
              obtain ⟨hj, hge⟩ := HGE.out
              obtain ⟨g, off, cap, G, hv, HE, hback⟩ := stEntry H5.here hj
              rw [HEL.out, q1] at hv
              cases hv
              rw [hge] at HE
              have fz := HE.frozen (off1 + s.entries.length * 7 + 1)
              obtain ⟨vp, g0, g1', g2, g3, g4, g5, g6, -⟩ := entryCells HE
              have HP := Lib.hid ((hback _ _ (HE.setPost entryR_number (y := 0) (v := .int .i64 0) rfl)).own H5)
              clear HE hback hge
              go_wp2_with fail
              go_meet
              exact HP.out
          · as_aux_lemma =>
              obtain ⟨hj, hge⟩ := HGE.out
              obtain ⟨g, off, cap, G, hv, HE, hback⟩ := stEntry H5.here hj
              rw [HEL.out, q1] at hv
              cases hv
              rw [hge] at HE
              have fz := HE.frozen (off1 + s.entries.length * 7 + 4)
              obtain ⟨vp, g0, g1', g2, g3, g4, g5, g6, -⟩ := entryCells HE
              have HP := Lib.hid ((hback _ _ (HE.setPost entryR_acked (y := -1) (v := .int .i64 (-1)) rfl)).own H5)
              clear HE hback hge
              go_wp2_with fail
              go_meet
              exact HP.out
          · as_aux_lemma =>
              obtain ⟨hj, hge⟩ := HGE.out
              obtain ⟨g, off, cap, G, hv, HE, hback⟩ := stEntry H5.here hj
              rw [HEL.out, q1] at hv
              cases hv
              rw [hge] at HE
              have fz := fun i => HE.frozen i
              obtain ⟨vp, g0, g1', g2, g3, g4, g5, g6, -⟩ := entryCells HE
              have HP := Lib.hid ((hback _ _ ((HE.setPost entryR_closed (y := true) (v := .bool true) rfl).then (fun F' h' => h'.setRow entryR_pieces (by show 0 < 7; decide) (l := [⟨#[120]⟩]) (G := [w5.heap.size]) (w1 := (w5.setCell ⟨g1, off1 + s.entries.length * 7 + 6, none⟩ (.bool true)).alloc (.cells #[.string ⟨#[120]⟩] 9)) (v := .slice (some ⟨w5.heap.size, 0, none⟩) 1 1) (Chg.alloc _ _ _)
                (row_flat.2 ⟨_, rfl, by
                  have hb := alloc_block (w5.setCell ⟨g1, off1 + s.entries.length * 7 + 6, none⟩ (.bool true)) (.cells #[.string ⟨#[120]⟩] 9)
                  rw [show (w5.setCell ⟨g1, off1 + s.entries.length * 7 + 6, none⟩ (.bool true)).heap.size = w5.heap.size from by simp [World.setCell]] at hb
                  exact ⟨rfl, .inr ⟨w5.heap.size, 0, 1, _, rfl, hb, by decide, by simp [maxLen], by simp, by simp⟩⟩, rfl⟩)
                (by intro j hj; simp only [List.mem_singleton] at hj; subst hj; simp [World.setCell]) (by simp)))).own H5)
              obtain ⟨F9, HE9, -⟩ := HE.setPost entryR_closed (y := true) (v := .bool true) rfl
              have HE10 := HE9.alloc (.cells #[.string ⟨#[120]⟩] 9)
              have fz10 := fun i => HE10.frozen i
              obtain ⟨vp10, -, -, -, g10, -⟩ := entryCells HE10
              have q10 := World.new_ne w5 _ q1
              have hq10 : ((w5.setCell ⟨g1, off1 + s.entries.length * 7 + 6, none⟩ (.bool true)).alloc (.cells #[.string ⟨#[120]⟩] 9)).cell? ⟨b, 1, none⟩ = some (.slice (some ⟨g1, off1, none⟩) (s.entries.length + 1) cap1) := by
                refine (Chg.alloc (fun _ => False) _ _).cell ?_
                refine (Chg.setCell w5 ⟨g1, off1 + s.entries.length * 7 + 6, none⟩ (.bool true)).cellS (by simpa using q1) ?_
                show ¬ b = g1
                exact fun e => HBG1.out e.symm
              clear HE hback hge HE9 HE10
              go_wp2_with fail
              go_meet
              exact HP.out
          · as_aux_lemma =>
              have hsl : (addX s).sent.length = s.entries.length + 1 := by have := HSL.out; unfold addX; simp; omega
              obtain ⟨g, off, cap, hv⟩ := H5.here.rowAt stateR_sent (by show 0 < 3; decide) (by show 0 < (addX s).sent.length; omega)
              obtain ⟨G1, h1, h2, h3⟩ := H5.here.field stateR_sent (by show 0 < 3; decide)
              obtain ⟨v9, xs, Fs, hc, hopen⟩ := h1.openRow
              rw [hv] at hc
              cases hc
              obtain ⟨f1, f2, f3⟩ := hopen.flat
              have hcap := f1.addr (by omega)
              rw [hsl] at hv f1
              obtain ⟨_, _, _, hvv, hn1, hn2⟩ := hcap
              have f4 := f1.take s.entries.length (by omega)
              have f5 : ((addX s).sent.flatMap fun a => [Value.string a]).take (s.entries.length * 1) = s.sent.flatMap fun a => [Value.string a] := by
                rw [flatMap_one, flatMap_one, Nat.mul_one, ← HSL.out]
                show ((s.sent ++ [reqQ]).map Value.string).take s.sent.length = _
                rw [List.map_append]
                exact List.take_left' (by simp)
              rw [f5] at f4
              have hown : (Rep.str.row 9).own w5 [.slice (some ⟨g, off, none⟩) s.entries.length cap] s.sent [g] := by
                have e := HSL.out
                rw [← e] at f4 ⊢
                exact row_flat.2 ⟨_, rfl, f4, rfl⟩
              obtain ⟨p1, p2⟩ := h1.put (w2 := w5) rfl (.refl _ _) hown (by simp) (fun k hk => .inl (by rw [f3]; exact hk))
              have HP := Lib.hid (Post.own (h3 _ _ _ p1 p2) H5)
              simp only [Value.slice.injEq, true_and] at hvv
              obtain ⟨-, rfl⟩ := hvv
              have fz := h1.frozen
              have b1 : s.entries.length ≤ cap := by omega
              have b2 : (s.entries.length : Int) ≤ (cap : Int) := by omega
              have b3 : (cap : Int) ≤ 9223372036854775807 := by unfold maxLen at hn2; omega
              clear hopen f1 f2 f3 f4 f5 h1 h3 p1 p2 hown hsl hn1 hn2
              go_wp2_with fail
              go_meet
              exact HP.out
          · as_aux_lemma =>
              have hsl : (addX s).sent.length = s.entries.length + 1 := by have := HSL.out; unfold addX; simp; omega
              obtain ⟨g, off, cap, hv⟩ := H5.here.rowAt stateR_sent (by show 0 < 3; decide) (by show 0 < (addX s).sent.length; omega)
              obtain ⟨G, HO, -, -, -, hback⟩ := H5.here.rowElem stateR_sent (by show 0 < 3; decide) hv (i := s.entries.length) (by show s.entries.length < (addX s).sent.length; omega)
              change Here Rep.str _ g (off + s.entries.length * 1) _ G at HO
              have fz := HO.frozen (off + s.entries.length * 1)
              obtain ⟨HO2, hs2⟩ := HO.set (y := (⟨#[111, 116, 104, 101, 114]⟩ : ByteArray)) (v := .string ⟨#[111, 116, 104, 101, 114]⟩) rfl
              have o0 := HO.cells (cs := []) 0 _ rfl
              have hp := (hback _ _ _ HO2 hs2).1.own H5
              rw [Nat.mul_one] at fz hp o0
              rw [Nat.add_zero] at o0
              rw [hsl] at hv
              have HP := Lib.hid hp
              have HQ : Hid ({ addX s with sent := (addX s).sent.set s.entries.length ⟨#[111, 116, 104, 101, 114]⟩ } = badM s 6) := Lib.hid (by unfold badM; rw [HSL.out]; rfl)
              clear HO HO2 hs2 hback hp
              generalize (addX s).sent[s.entries.length] = old at o0
              clear hsl
              go_wp2_with fail
              go_meet
              rw [← HQ.out]
              exact HP.out
          · as_aux_lemma =>
              obtain ⟨hj, hge⟩ := HGE.out
              obtain ⟨g, off, cap, G, hv, HE, hback⟩ := stEntry H5.here hj
              rw [HEL.out, q1] at hv
              cases hv
              rw [hge] at HE
              have fz := HE.frozen (off1 + s.entries.length * 7)
              obtain ⟨vp, g0, g1', g2, g3, g4, g5, g6, -⟩ := entryCells HE
              have HP := Lib.hid ((hback _ _ (HE.setPost entryR_page (y := ⟨#[]⟩) (v := .string ⟨#[]⟩) rfl)).own H5)
              clear HE hback hge
              go_wp2_with fail
              go_meet
              exact HP.out
        case rest =>
          obtain ⟨F6, H6⟩ := hcut
          have HBAD : Hid (¬ AllOk (badM s k)) := Lib.hid (badM_bad s HSL.out k HK8.out)
          have HPG : Hid (PagesOk (badM s k)) := Lib.hid (badM_pages s HR.out.wee k)
          obtain ⟨v0, v1, v2, e0, e1, e2, hag⟩ := stateAgg H6.here
          have HND : Hid F6.Nodup := Lib.hid H6.here.nd
          have HST := Lib.hid H6
          clear H6 H5 q1
          go_wp2_with fail
          refine (encode_no _ _ _ _ (badM s k) F6 hag HND.out HPG.out HBAD.out).mono ?_
          rintro e w6 ⟨rfl, hc6⟩
          clear hag e0 e1 e2
          go_wp2_with fail
          go_ret
          exact ⟨rfl, (HST.out.still hc6).chg.below (Nat.le_refl _) (fun _ h => h.elim)⟩
set_option maxHeartbeats 800000 in
set_option maxRecDepth 100000 in
theorem ticketForms_long (w : World) (v : Value) (ops : List COp) (how : Int) (h : ArgRows w v 6 (ops.map COp.cells)) (ho : ∀ o ∈ ops, COpOk o) (hf : fewB ops 40 = false) :
    Calls Try.prog 8 #[v, .int .u8 how] w fun e w' => e = .returned (.bool true) ∧ Below w.heap.size w w' := by
  have HF := Lib.hid hf
  have HA := Lib.hid h
  have HO := Lib.hid ho
  obtain ⟨a, cap, rfl, -⟩ := h
  clear hf ho
  rw [List.length_map] at HA
  go_enter Try.func8, Try.ntmps8
  go_wp2_with fail
  refine (awake_any w).mono ?_
  rintro e w1 ⟨rfl, hc1⟩
  go_wp2_with fail
  refine (few_any w1 ops _ 40 (by decide) (HA.out.keep hc1) HO.out).mono ?_
  rintro e w2 ⟨rfl, rfl⟩
  rw [HF.out]
  go_wp2_with fail
  refine (awake_any w1).mono ?_
  rintro e w2 ⟨rfl, hc2⟩
  go_wp2_with fail
  go_ret
  exact ⟨rfl, (hc1.trans' hc2).below (Nat.le_refl _) (fun _ h => h.elim)⟩
theorem u8_range' {n : Int} (h0 : (Lit.int IntKind.u8 n).wf = true) : 0 ≤ n ∧ n ≤ 255 := by
  have h : IntKind.u8.min ≤ n ∧ n ≤ IntKind.u8.max := by simpa [Lit.wf] using h0
  have e1 : IntKind.u8.min = 0 := by decide
  have e2 : IntKind.u8.max = 255 := by decide
  rw [e1, e2] at h; exact h
theorem ticketForms_walk (w : World) (v : Value) (ops : List COp) (how : Int) (hhow : 0 ≤ how ∧ how ≤ 255) (h : ArgRows w v 6 (ops.map COp.cells)) (ho : ∀ o ∈ ops, COpOk o) :
    Calls Try.prog 8 #[v, .int .u8 how] w fun e w' => e = .returned (.bool true) ∧ Below w.heap.size w w' := by
  cases hf : fewB ops 40 with
  | true => exact ticketForms_ok w v ops how hhow h ho hf
  | false => exact ticketForms_long w v ops how h ho hf
set_option maxRecDepth 100000 in
theorem ticketForms_lifted (os : Os) (started : os.Started) (H : Type) (enc : TypeId × Value → H) :
    ReturnsInHanded {} Try.checked os 8 .any (Rows.ticketFormsSpec.pre6 enc Try.prog Try.f8 [] false) (Rows.ticketFormsSpec.post enc Try.prog Try.f8 false true false false) := by
  refine law_lift (C := Try.checked) (tb := 4) started Try.own Try.laidOut (by kernel_rfl) Try.func8 (by kernel_rfl) rfl Try.underlying4 rfl ?_
    (ChangeSpec.witness6 (enc := enc) (C := Try.checked) false ⟨#[], #[.slice none 0 0, .int .u8 0], []⟩ 8 (by kernel_rfl) (by kernel_rfl) (by kernel_rfl) (by kernel_rfl)) ?_
  · intro ds h
    match ds, h with
    | [_, _], _ => rfl
  · intro W base vs ds ps hval hA hsz
    have hp : Try.f8.params.toList = [42, 5] := by rw [Try.params8]
    rw [hp] at hval hA hsz
    obtain ⟨v0, vs0, d0, ds0, p0, q0, rfl, rfl, rfl, h0, r0⟩ := trodAll_cons hA
    obtain ⟨v1, vs1, d1, ds1, p1, q1, rfl, rfl, rfl, h1, r1⟩ := trodAll_cons r0
    obtain ⟨rfl, rfl, rfl⟩ := trodAll_nil r1
    obtain ⟨a0, rfl, w0⟩ := open_ops (hval 0 42 v0 rfl rfl) h0
    obtain ⟨a1, rfl, rfl, rfl, w1⟩ := open_int Try.underlying5 (hval 1 5 v1 rfl rfl) h1
    exact ticketForms_walk W a0.1 a0.2 a1 (u8_range' w1) w0.1 w0.2

theorem ticketForms_holds : Rows.TicketFormsSaid :=
  OpenClaim.holds_of_wide 8 Try.f8 rfl rfl rfl rfl rfl rfl rfl ⟨rfl, rfl, rfl, rfl, rfl⟩ rfl rfl rfl rfl rfl (by kernel_rfl) Try.func8 (by kernel_rfl)
    (of_decide_eq_true (by kernel_rfl)) (by unfold Func.isWrapper; first | (rw [if_pos (by decide +kernel)]; kernel_rfl) | (rw [if_neg (by decide +kernel)]; exact ⟨rfl, rfl⟩))
    (fun os started H enc _ => ticketForms_lifted os started H enc)
#print axioms ticketForms_holds
end Go.Proofs.Ytaacafdlklnegaa
