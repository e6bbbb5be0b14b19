/-
  TicketPieces: owners that follow one another get all pieces exactly once and in order; for all pieces and all ways.
-/
import Derived.Test.YtaacafdlklnegaaTiki
import Derived.Deep.CutBlock
namespace Go.Proofs.Ytaacafdlklnegaa
set_option linter.unusedVariables false
open Go.ChangeShapes Go.WideShapes Go.ChangeAt Go.RowKit
open Go.ChangeMaps (open_string shut_string)

theorem Seen.src {w : World} {v : Value} {xs : List ByteArray} (h : Seen w v (xs.map Value.string)) : Src Try.prog 1 25 v xs.length (xs.map Value.string) w := by
  obtain ⟨p, cap, rfl, h1, h2, h3⟩ := h
  have hl : (xs.map Value.string).length = xs.length := by simp
  rw [hl] at h1 ⊢
  cases p with
  | none =>
    have hx : xs = [] := by
      apply Classical.byContradiction
      intro hne
      obtain ⟨g, off, hh, _⟩ := h3 (by simpa using hne)
      cases hh
    subst hx
    exact Src.ofNil _ Try.underlying25 cap
  | some ad =>
    refine Src.ofSlice _ Try.underlying25 ad xs.length cap _ (by simp) ?_ (by intro u hu; obtain ⟨y, _, rfl⟩ := List.mem_map.1 hu; rfl)
    intro j u hu
    have hne : xs.map Value.string ≠ [] := by rintro e; rw [e] at hu; simp at hu
    obtain ⟨g, off, hh, h4⟩ := h3 hne
    cases hh
    rw [show (⟨g, off, none⟩ : Addr).add j = ⟨g, off + j, none⟩ from by unfold Addr.add; split <;> simp_all]
    exact h4 j u hu
theorem app_first {w5 w2 : World} {o : Obj} {v v2 : Value} (hv : v.ownBlock = some w5.heap.size) (hc : Chg (fun k => v.ownBlock = some k) (w5.alloc o) w2) (ho : ∀ k, v2.ownBlock = some k → v.ownBlock = some k ∨ (w5.alloc o).heap.size ≤ k) :
    Chg (fun _ => False) w5 w2 ∧ ∀ k, v2.ownBlock = some k → w5.heap.size ≤ k := by
  have h1 := Chg.alloc (fun _ => False) w5 o
  refine ⟨h1.trans hc (fun _ _ x => x) (fun i hi x => ?_), fun k hk => ?_⟩
  · rw [hv] at x; cases x; exact Nat.lt_irrefl _ hi
  · rcases ho k hk with x | x
    · rw [hv] at x; cases x; exact Nat.le_refl _
    · have := h1.size; omega
theorem app_next {w5 w2 w3 : World} {v2 v3 : Value} (h1 : Chg (fun _ => False) w5 w2) (hf : ∀ k, v2.ownBlock = some k → w5.heap.size ≤ k) (hc : Chg (fun k => v2.ownBlock = some k) w2 w3) (ho : ∀ k, v3.ownBlock = some k → v2.ownBlock = some k ∨ w2.heap.size ≤ k) :
    Chg (fun _ => False) w5 w3 ∧ ∀ k, v3.ownBlock = some k → w5.heap.size ≤ k := by
  refine ⟨h1.trans hc (fun _ _ x => x) (fun i hi x => ?_), fun k hk => ?_⟩
  · have := hf i x; omega
  · rcases ho k hk with x | x
    · exact hf k x
    · have := h1.size; omega

/-- What holds between two rounds. -/
structure PInv (P : List ByteArray) (W : Nat) (w wr : World) (b e f a i : Nat) (en cl : Bool) (v : Value) (F : List Nat) : Prop where
  af : a ≤ f
  fP : f ≤ P.length
  enF : en = true → f = P.length
  clF : cl = true → en = true ∧ a = f
  ei : e ≤ i
  iT : i ≤ W + P.length + 5
  way : i ≤ W ∨ i ≤ W + f ∨ en = true
  st : Own stateR w wr b 0 (oneS ((e : Int) + 1) ((P.take f).drop a) a en cl) F
  row : RowAt wr 9 1 v a ((P.take a).map Value.string)
  own : ∀ k, v.ownBlock = some k → w.heap.size ≤ k ∧ k ≠ b ∧ k ∉ F

section
variable {P : List ByteArray} {W : Nat} {w wr w3 w' : World} {b e f a i : Nat} {en cl : Bool} {v : Value} {F : List Nat}
/-- A call that changes the state alone. -/
theorem PInv.post (HI : PInv P W w wr b e f a i en cl v F) {e' f' i' : Nat} {en' cl' : Bool} {L' : List ByteArray} (hp : Post stateR wr b 0 (oneS ((e' : Int) + 1) L' a en' cl') F w') (hL : L' = (P.take f').drop a)
    (h1 : a ≤ f') (h2 : f' ≤ P.length) (h3 : en' = true → f' = P.length) (h4 : cl' = true → en' = true ∧ a = f') (h5 : e' ≤ i') (h6 : i' ≤ W + P.length + 5) (h7 : i' ≤ W ∨ i' ≤ W + f' ∨ en' = true) : ∃ F', PInv P W w w' b e' f' a i' en' cl' v F' := by
  obtain ⟨F', HH, hs⟩ := hp
  subst hL
  refine ⟨F', h1, h2, h3, h4, h5, h6, h7, HI.st.step HH hs, HI.row.chg hs.chg (fun k hk => ?_), fun k hk => ?_⟩
  · obtain ⟨_, h8, h9⟩ := HI.own k hk
    rintro (x | x)
    · exact h8 x
    · exact h9 x
  · obtain ⟨h0, h8, h9⟩ := HI.own k hk
    refine ⟨h0, h8, fun x => ?_⟩
    rcases hs.new k x with y | y
    · exact h9 y
    · have := HI.row.lt k hk; omega
theorem PInv.still (HI : PInv P W w wr b e f a i en cl v F) (hc : Chg (fun _ => False) wr w') : PInv P W w w' b e f a i en cl v F :=
  ⟨HI.af, HI.fP, HI.enF, HI.clF, HI.ei, HI.iT, HI.way, HI.st.still hc, HI.row.chg hc (fun _ _ x => x), HI.own⟩
theorem PInv.idle (HI : PInv P W w wr b e f a i en cl v F) (hlt : i < W + P.length + 5) (hway : W ≤ i → en = true) (hc : Chg (fun _ => False) wr w') : PInv P W w w' b e f a (i + 1) en cl v F :=
  ⟨HI.af, HI.fP, HI.enF, HI.clF, by have := HI.ei; omega, by omega, by
    by_cases h : W ≤ i
    · exact .inr (.inr (hway h))
    · exact .inl (by omega), HI.st.still hc, HI.row.chg hc (fun _ _ x => x), HI.own⟩
/-- What was taken is acknowledged. -/
theorem PInv.got (HI : PInv P W w wr b e f a i en false v F) (hc : Chg (fun _ => False) wr w3) {v3 : Value} {l : Nat} (hl : l = ((P.take f).drop a).length) (hrow : RowAt w3 9 1 v3 (a + l) ((P.take a ++ (P.take f).drop a).map Value.string)) (hf : ∀ k, v3.ownBlock = some k → wr.heap.size ≤ k)
    (hp : Post stateR w3 b 0 (oneS ((e : Int) + 1) [] (a + l) en en) F w') {i' : Nat} (hi : i ≤ i') (hT : i' ≤ W + P.length + 5) (hway : i' ≤ W ∨ i' ≤ W + f ∨ en = true) : ∃ F', PInv P W w w' b e f (a + l) i' en en v3 F' := by
  obtain ⟨F', HH, hs⟩ := hp
  have haf := HI.af
  have hfP := HI.fP
  have hl2 : a + l = f := by rw [hl, List.length_drop, List.length_take]; omega
  have hst := HI.st.still hc
  have hb := HI.st.here.lt
  refine ⟨F', by omega, hfP, HI.enF, fun h => ⟨h, hl2⟩, by have := HI.ei; omega, hT, hway, ?_, ?_, ?_⟩
  · have : (P.take f).drop (a + l) = [] := by rw [List.drop_eq_nil_iff, List.length_take]; omega
    rw [this]
    exact hst.step HH hs
  · have : P.take a ++ (P.take f).drop a = P.take (a + l) := by
      have h9 := List.take_append_drop a (P.take f)
      rw [List.take_take, Nat.min_eq_left haf] at h9
      rw [hl2, h9]
    rw [this] at hrow
    refine hrow.chg hs.chg (fun k hk => ?_)
    have h1 := hf k hk
    rintro (x | x)
    · omega
    · have := hb.2 k x; omega
  · intro k hk
    have h1 := hf k hk
    refine ⟨by have := HI.st.chg.size; omega, by omega, fun x => ?_⟩
    rcases hs.new k x with y | y
    · have := hb.2 k y; omega
    · have := hrow.lt k hk; omega
end

set_option maxHeartbeats 12800000 in
set_option maxRecDepth 100000 in
theorem ticketPieces_ok (P : List ByteArray) (ws : List Int) (vp vw : Value) (w : World) (hP : ArgRow w vp (P.map Value.string)) (hw : ArgRow w vw (ws.map (Value.int .u8))) (hz : ∀ z ∈ ws, 0 ≤ z ∧ z ≤ 255) (hs : ∀ x ∈ P, x.size ≤ maxLen) (hp40 : P.length ≤ 40) (hw60 : ws.length ≤ 60) :
    Calls Try.prog 4 #[vp, vw] w fun e w' => e = .returned (.bool true) ∧ Below w.heap.size w w' := by
  have HAP := Lib.hid hP
  have HAW := Lib.hid hw
  obtain ⟨pp, cp, rfl, -⟩ := hP
  obtain ⟨pw, cw, rfl, -⟩ := hw
  rw [List.length_map] at *
  have HZ := Lib.hid hz
  have HS := Lib.hid hs
  have H40 := Lib.hid hp40
  have H60 := Lib.hid hw60
  have d40 : decide ((40 : Int) < (P.length : Int)) = false := by simp; omega
  have d60 : decide ((60 : Int) < (ws.length : Int)) = false := by simp; omega
  have l1 : (P.length : Int) ≤ 9223372036854775807 := by omega
  have l2 : (ws.length : Int) ≤ 9223372036854775807 := by omega
  have k1 : IntKind.i64.wrap ((ws.length : Int) + (P.length : Int)) = (ws.length : Int) + (P.length : Int) := IntWalk.i64_in _ (by omega)
  have k2 : IntKind.i64.wrap ((ws.length : Int) + (P.length : Int) + 5) = (ws.length : Int) + (P.length : Int) + 5 := IntWalk.i64_in _ (by omega)
  clear hz hs hp40 hw60
  go_enter Try.func4, Try.ntmps4
  go_wp2_with fail
  refine (awake_any w).mono ?_
  rintro e w1 ⟨rfl, hc1⟩
  have H1 := (Own.made (A := stateR) w1 27 _ newState (newState_own w1)).from hc1
  go_wp2_with fail
  refine (claim_any _ w1.heap.size 0 newState [] pageP 1 H1.here (by decide) ⟨by decide⟩).mono ?_
  rintro e w2 ⟨rfl, hp⟩
  rw [one_first] at hp ⊢
  obtain ⟨F2, H2⟩ := hp.own H1
  clear H1
  go_wp2_with fail
  refine (ask_any _ w1.heap.size 0 _ F2 pageP 1 9 reqS H2.here ⟨by show 0 < 1000000000; decide⟩ ⟨by show 0 < 1000000000; decide⟩).mono ?_
  rintro e w3 ⟨rfl, hp⟩
  rw [one_asked] at hp ⊢
  obtain ⟨F3, H3⟩ := hp.own H2
  clear H2 hp
  generalize w1.heap.size = b at *
  have HI0 : PInv P ws.length w w3 b 0 0 0 0 false false (.slice none 0 0) F3 := ⟨by omega, by omega, by simp, by simp, by omega, by omega, by omega, by simpa using H3, RowAt.nil _ _ _, by simp [Value.ownBlock]⟩
  clear H3
  go_wp2_with fail
  go_loopw [6, 7, 8, 9, 10, 11] (fun u6 u7 u8 u9 u10 u11 wr => ∃ (e f a i : Nat) (en cl : Bool) (p : Option Addr) (n c : Nat) (F : List Nat), u6 = .int .i64 ((e : Int) + 1) ∧ u7 = .int .i64 f ∧ u8 = .int .i64 a ∧ u9 = .bool en ∧ u10 = .slice p n c ∧ u11 = .int .i64 i ∧ PInv P ws.length w wr b e f a i en cl (.slice p n c) F) (fun _ _ _ _ _ u11 _ => ws.length + P.length + 5 - (intOf u11).toNat)
  case atStart => exact ⟨0, 0, 0, 0, false, false, none, 0, 0, F3, rfl, rfl, rfl, rfl, rfl, rfl, HI0⟩
  case round =>
    obtain ⟨e, f, a, i, en, cl, p, n, c, F, rfl, rfl, rfl, rfl, rfl, rfl, HI⟩ := hrel
    clear HI0
    by_cases hlt : i < ws.length + P.length + 5
    · have hd : decide ((i : Int) < (ws.length : Int) + (P.length : Int) + 5) = true := by simp; omega
      have hch := HI.st.chg
      go_upto_if 58 with fail
      go_cut [12] (fun s12 wx => ∃ h : Int, s12 = .int .u8 h ∧ 0 ≤ h ∧ h ≤ 3 ∧ (ws.length ≤ i → h = 0) ∧ wr = wx)
      case first =>
        by_cases hi : i < ws.length
        · obtain ⟨g, off, rfl, cw⟩ := argCell HAW.out hch (k := i) (u := .int .u8 ws[i]) (by simp [hi])
          have hzi := HZ.out _ (List.getElem_mem hi)
          have hdi : decide ((i : Int) < (ws.length : Int)) = true := by simp; omega
          have h0 : (0 : Int) ≤ (i : Int) := Int.natCast_nonneg _
          have h1 : (i : Int) < (ws.length : Int) := by omega
          generalize ws[i] = z at *
          go_wp2_with fail
          go_meet
          exact ⟨z % 4, rfl, by omega, by omega, by omega, rfl⟩
        · have hdi : decide ((i : Int) < (ws.length : Int)) = false := by simp; omega
          go_wp2_with fail
          go_meet
          exact ⟨0, rfl, by omega, by omega, by omega, rfl⟩
      case rest =>
        obtain ⟨h, rfl, hh0, hh3, hhw, rfl⟩ := hcut
        have HW := Lib.hid hhw
        have HLT := Lib.hid hlt
        have hcase : h = 0 ∨ h = 1 ∨ h = 2 ∨ h = 3 := by omega
        have wi : IntKind.i64.wrap ((i : Int) + 1) = (i : Int) + 1 := IntWalk.i64_in _ (by have := H40.out; have := H60.out; omega)
        have hT : i + 1 ≤ ws.length + P.length + 5 := by omega
        have HT := Lib.hid hT
        have haf40 : f < 1000000000 ∧ a < 1000000000 := by have := H40.out; have := HI.af; have := HI.fP; omega
        have HAF := Lib.hid haf40
        have hpcs : (List.drop a (List.take f P)).length = f - a := by have := HI.fP; rw [List.length_drop, List.length_take]; omega
        have HPC := Lib.hid hpcs
        clear hhw hlt hT haf40 hpcs hd
        rcases hcase with rfl | rfl | rfl | rfl
        · -- a piece is fed, or the end comes
          as_aux_lemma =>
            by_cases hf : f < P.length
            · have hen : en = false := by
                cases en with
                | false => rfl
                | true => exact absurd (HI.enF rfl) (by omega)
              subst hen
              have hcl : cl = false := by
                cases cl with
                | false => rfl
                | true => exact absurd (HI.clF rfl).1 (by simp)
              subst hcl
              obtain ⟨g, off, rfl, cp'⟩ := argCell HAP.out hch (k := f) (u := .string P[f]) (by simp [hf])
              have HX : Hid (List.drop a (List.take f P) ++ [P[f]] = List.drop a (List.take (f + 1) P)) := Lib.hid (by
                rw [List.take_succ_eq_append_getElem hf, List.drop_append_of_le_length (by have := HI.af; rw [List.length_take]; omega)])
              have hsz := HS.out _ (List.getElem_mem hf)
              have hdf : decide ((f : Int) < (P.length : Int)) = true := by simp; omega
              have h0 : (0 : Int) ≤ (f : Int) := Int.natCast_nonneg _
              have h1 : (f : Int) < (P.length : Int) := by omega
              have wf : IntKind.i64.wrap ((f : Int) + 1) = (f : Int) + 1 := IntWalk.i64_in _ (by have := HAF.out; omega)
              have HF := Lib.hid hf
              generalize P[f] = x at *
              have lx : (x.size : Int) ≤ 9223372036854775807 := by unfold maxLen at hsz; omega
              clear hf hsz
              by_cases hx : 60 < x.size
              · have hdx : decide ((60 : Int) < (x.size : Int)) = true := by simp; omega
                clear hx
                go_wp2_with fail
                go_ret
                exact ⟨rfl, HI.st.chg.below (Nat.le_refl _) (fun _ h => h.elim)⟩
              · have hdx : decide ((60 : Int) < (x.size : Int)) = false := by simp; omega
                clear hx
                go_wp2_with fail
                refine (feed_any _ b 0 _ F pageP 9 x HI.st.here (one_pieces _ _ _ _ _ (by rw [HPC.out]; have := HAF.out; omega))).mono ?_
                rintro y w4 ⟨rfl, hp⟩
                rw [one_feed] at hp ⊢
                obtain ⟨F4, HI4⟩ := HI.post (e' := e) (f' := f + 1) (i' := i + 1) hp HX.out (by have := HI.af; omega) HF.out (by simp) (by simp) (by have := HI.ei; omega) HT.out (by
                  have := HI.way
                  rcases this with h | h | h
                  · exact .inr (.inl (by omega))
                  · exact .inr (.inl (by omega))
                  · simp at h)
                go_wp2_with fail
                go_roundw
                case rel => exact ⟨e, f + 1, a, i + 1, false, false, p, n, c, F4, rfl, by go_num, rfl, rfl, rfl, by go_num, HI4⟩
                case measure => have := HLT.out; simp [intOf]; omega
            · have hdf : decide ((f : Int) < (P.length : Int)) = false := by simp; omega
              have HF : Hid (f = P.length) := Lib.hid (by have := HI.fP; omega)
              cases en with
              | false =>
                have hcl : cl = false := by
                  cases cl with
                  | false => rfl
                  | true => exact absurd (HI.clF rfl).1 (by simp)
                subst hcl
                go_wp2_with fail
                refine (end_any _ b 0 _ F pageP 9 HI.st.here).mono ?_
                rintro y w4 ⟨rfl, hp⟩
                rw [one_end] at hp ⊢
                obtain ⟨F4, HI4⟩ := HI.post (e' := e) (f' := f) (i' := i + 1) hp rfl HI.af HI.fP (fun _ => HF.out) (by simp) (by have := HI.ei; omega) HT.out (.inr (.inr rfl))
                go_wp2_with fail
                go_roundw
                case rel => exact ⟨e, f, a, i + 1, true, false, p, n, c, F4, rfl, rfl, rfl, rfl, rfl, by go_num, HI4⟩
                case measure => have := HLT.out; simp [intOf]; omega
              | true =>
                go_wp2_with fail
                go_roundw
                case rel => exact ⟨e, f, a, i + 1, true, cl, p, n, c, F, rfl, rfl, rfl, rfl, rfl, by go_num, HI.idle HLT.out (fun _ => rfl) (.refl _ _)⟩
                case measure => have := HLT.out; simp [intOf]; omega
        · -- a new owner
          as_aux_lemma =>
            have w1' : IntKind.i64.wrap ((e : Int) + 1 + 1) = (e : Int) + 1 + 1 := IntWalk.i64_in _ (by have := HI.ei; have := HI.iT; have := H40.out; have := H60.out; omega)
            have w2' : IntKind.i64.wrap ((e : Int) + 1) = (e : Int) + 1 := IntWalk.i64_in _ (by have := HI.ei; have := HI.iT; have := H40.out; have := H60.out; omega)
            go_wp2_with fail
            refine (claim_any _ b 0 _ F pageP ((e : Int) + 1 + 1) HI.st.here (by decide) (one_fewO _ _ _ _ _)).mono ?_
            rintro x w4 ⟨rfl, hp⟩
            rw [one_claim _ (by omega)] at hp ⊢
            obtain ⟨F4, HI4⟩ := HI.post (e' := e + 1) (i' := i + 1) (by simpa using hp) rfl HI.af HI.fP HI.enF HI.clF (by have := HI.ei; omega) HT.out (by
              by_cases hw : ws.length ≤ i
              · have := HW.out hw; omega
              · exact .inl (by omega))
            have HE : Hid (((e + 1 : Nat) : Int) + 1 = (e : Int) + 1 + 1) := Lib.hid (by omega)
            have H4 := HI4.st
            rw [HE.out] at H4
            go_wp2_with fail
            refine (ask_any _ b 0 _ F4 pageP ((e : Int) + 1 + 1) 9 reqS H4.here (one_few _ _ _ _ _) (one_fewS _ _ _ _ _)).mono ?_
            rintro x w5 ⟨rfl, hp⟩
            rw [one_again] at hp ⊢
            obtain ⟨F5, HI5⟩ := HI4.post (e' := e + 1) (i' := i + 1) (by simpa using hp) rfl HI.af HI.fP HI.enF HI.clF HI4.ei HI4.iT HI4.way
            have H5 := HI5.st
            rw [HE.out] at H5
            go_wp2_with fail
            refine (take_any _ b 0 _ F5 pageP ((e : Int) + 1) 9 a H5.here (one_all _ _ _ _ _ (by rw [HPC.out]; have := HAF.out; omega) HAF.out.2)).mono ?_
            rintro x w6 ⟨v', rfl, hrow, -, hch6⟩
            rw [one_old _ _ (by omega)] at hrow ⊢
            obtain ⟨pv, cv, rfl, -, -⟩ := hrow.slice
            have HI6 := HI5.still hch6
            clear hrow H4 H5 HI4 HI5 HI
            go_wp2_with fail
            go_roundw
            case rel => exact ⟨e + 1, f, a, i + 1, en, cl, p, n, c, F5, by go_num, rfl, rfl, rfl, rfl, by go_num, HI6⟩
            case measure => have := HLT.out; simp [intOf]; omega
        · -- what is there is looked at
          as_aux_lemma =>
            have HWAY : Hid (ws.length ≤ i → en = true) := Lib.hid (fun h => by have := HW.out h; omega)
            cases cl with
            | true =>
              obtain ⟨rfl, rfl⟩ := HI.clF rfl
              go_wp2_with fail
              refine (take_any _ b 0 _ F pageP ((e : Int) + 1) 9 a HI.st.here (one_all _ _ _ _ _ (by rw [HPC.out]; have := HAF.out; omega) HAF.out.2)).mono ?_
              rintro x w6 ⟨v', rfl, hrow, -, hch6⟩
              rw [one_shut] at hrow ⊢
              obtain ⟨pv, cv, rfl, -, -⟩ := hrow.slice
              clear hrow
              go_wp2_with fail
              go_roundw
              case rel => exact ⟨e, a, a, i + 1, true, true, p, n, c, F, rfl, rfl, rfl, rfl, rfl, by go_num, HI.idle HLT.out (fun _ => rfl) hch6⟩
              case measure => have := HLT.out; simp [intOf]; omega
            | false =>
              obtain ⟨d, hd⟩ : ∃ d, (List.drop a (List.take f P)).length = d := ⟨_, rfl⟩
              have hdf : (d : Int) = (f : Int) - (a : Int) := by have := HPC.out; have := HI.af; omega
              have hcmp : ((d : Int) != (f : Int) - (a : Int)) = false := by rw [hdf]; simp
              have hcmp2 : ((d : Int) == (f : Int) - (a : Int)) = true := by rw [hdf]; simp
              have wfa : IntKind.i64.wrap ((f : Int) - (a : Int)) = (f : Int) - (a : Int) := IntWalk.i64_in _ (by have := HAF.out; omega)
              have ldd : (d : Int) ≤ 9223372036854775807 := by have := HAF.out; omega
              have HD := Lib.hid hd
              clear hd hdf
              cases en with
              | true =>
                by_cases haf : a = f
                · have hq : ((a : Int) == (f : Int)) = true := by rw [haf]; simp
                  clear haf
                  go_wp2_with fail
                  refine (take_any _ b 0 _ F pageP ((e : Int) + 1) 9 a HI.st.here (one_all _ _ _ _ _ (by rw [HPC.out]; have := HAF.out; omega) HAF.out.2)).mono ?_
                  rintro x w6 ⟨v', rfl, hrow, -, hch6⟩
                  rw [one_take] at hrow ⊢
                  rw [HD.out] at hrow
                  obtain ⟨pv, cv, rfl, -, -⟩ := hrow.slice
                  clear hrow
                  go_wp2_with fail
                  go_roundw
                  case rel => exact ⟨e, f, a, i + 1, true, false, p, n, c, F, rfl, rfl, rfl, rfl, rfl, by go_num, HI.idle HLT.out (fun _ => rfl) hch6⟩
                  case measure => have := HLT.out; simp [intOf]; omega
                · have hq : ((a : Int) == (f : Int)) = false := by rw [beq_eq_false_iff_ne]; omega
                  clear haf
                  go_wp2_with fail
                  refine (take_any _ b 0 _ F pageP ((e : Int) + 1) 9 a HI.st.here (one_all _ _ _ _ _ (by rw [HPC.out]; have := HAF.out; omega) HAF.out.2)).mono ?_
                  rintro x w6 ⟨v', rfl, hrow, -, hch6⟩
                  rw [one_take] at hrow ⊢
                  rw [HD.out] at hrow
                  obtain ⟨pv, cv, rfl, -, -⟩ := hrow.slice
                  clear hrow
                  go_wp2_with fail
                  go_roundw
                  case rel => exact ⟨e, f, a, i + 1, true, false, p, n, c, F, rfl, rfl, rfl, rfl, rfl, by go_num, HI.idle HLT.out (fun _ => rfl) hch6⟩
                  case measure => have := HLT.out; simp [intOf]; omega
              | false =>
                go_wp2_with fail
                refine (take_any _ b 0 _ F pageP ((e : Int) + 1) 9 a HI.st.here (one_all _ _ _ _ _ (by rw [HPC.out]; have := HAF.out; omega) HAF.out.2)).mono ?_
                rintro x w6 ⟨v', rfl, hrow, -, hch6⟩
                rw [one_take] at hrow ⊢
                rw [HD.out] at hrow
                obtain ⟨pv, cv, rfl, -, -⟩ := hrow.slice
                clear hrow
                go_wp2_with fail
                go_roundw
                case rel => exact ⟨e, f, a, i + 1, false, false, p, n, c, F, rfl, rfl, rfl, rfl, rfl, by go_num, HI.idle HLT.out HWAY.out hch6⟩
                case measure => have := HLT.out; simp [intOf]; omega
        · -- what is there is taken and acknowledged
          have HWAY : Hid (ws.length ≤ i → en = true) := Lib.hid (fun h => by have := HW.out h; omega)
          cases cl with
          | true =>
            obtain ⟨rfl, rfl⟩ := HI.clF rfl
            go_wp2_with fail
            go_roundw
            case rel => exact ⟨e, a, a, i + 1, true, true, p, n, c, F, rfl, rfl, rfl, rfl, rfl, by go_num, HI.idle HLT.out (fun _ => rfl) (.refl _ _)⟩
            case measure => have := HLT.out; simp [intOf]; omega
          | false =>
            obtain ⟨d, hd⟩ : ∃ d, (List.drop a (List.take f P)).length = d := ⟨_, rfl⟩
            have HD := Lib.hid hd
            have ldd : (d : Int) ≤ 9223372036854775807 := by have := HAF.out; have := HPC.out; omega
            have wad : IntKind.i64.wrap ((a : Int) + (d : Int)) = (a : Int) + (d : Int) := IntWalk.i64_in _ (by have := HAF.out; have := HPC.out; omega)
            have HE := Lib.hid elem_str
            have HPI := HI.way
            have HWN : Hid (i + 1 ≤ ws.length ∨ i + 1 ≤ ws.length + f ∨ en = true) := Lib.hid (by
              by_cases hw : ws.length ≤ i
              · exact .inr (.inr (HWAY.out hw))
              · exact .inl (by omega))
            clear hd HPI
            by_cases hex : en = true ∧ a = f
            · obtain ⟨rfl, rfl⟩ := hex
              go_wp2_with fail
              go_roundw
              case rel => exact ⟨e, a, a, i + 1, true, false, p, n, c, F, rfl, rfl, rfl, rfl, rfl, by go_num, HI.idle HLT.out (fun _ => rfl) (.refl _ _)⟩
              case measure => have := HLT.out; simp [intOf]; omega
            · have hq : (en && ((a : Int) == (f : Int))) = false := by
                cases en with
                | false => rfl
                | true => rw [Bool.true_and, beq_eq_false_iff_ne]; intro hh; exact hex ⟨rfl, by omega⟩
              clear hex
              have HLA : Hid ((P.take a).length = a) := Lib.hid (by have := HI.af; have := HI.fP; rw [List.length_take]; omega)
              cases en with
              | false => -- @aux
                as_aux_lemma =>
                  go_wp2_with fail
                  refine (take_any _ b 0 _ F pageP ((e : Int) + 1) 9 a HI.st.here (one_all _ _ _ _ _ (by rw [HPC.out]; have := HAF.out; omega) HAF.out.2)).mono ?_
                  rintro x w6 ⟨v', rfl, hrow, -, hch6⟩
                  rw [one_take] at hrow ⊢
                  have hseenL : Seen w6 v' ((List.drop a (List.take f P)).map Value.string) := .ofRow hrow
                  rw [HD.out] at hrow
                  obtain ⟨pv, cv, rfl, -, -⟩ := hrow.slice
                  have HI6 := HI.still hch6
                  have hA := Chg.alloc (fun _ => False) w6 (.cells #[] 9)
                  have hrow1 : RowAt (w6.alloc (.cells #[] 9)) 9 1 (.slice (some ⟨w6.heap.size, 0, none⟩) 0 0) 0 [] := ⟨rfl, .inr ⟨w6.heap.size, 0, 0, _, rfl, alloc_block w6 _, Nat.le_refl _, by simp, by simp, rfl⟩⟩
                  have hsrc1 := Lib.hid (Seen.src ((Seen.ofRow HI6.row).still hA))
                  have HSL := Lib.hid hseenL
                  obtain ⟨ei, ez, hi, hz, hs1, hs2, hs3⟩ := HE.out
                  have HEI := Lib.hid hi
                  have HEZ := Lib.hid hz
                  have HE1 := Lib.hid hs1
                  have HE2 := Lib.hid hs2
                  have HE3 := Lib.hid hs3
                  clear hi hz hs1 hs2 hs3 hrow hseenL hA
                  go_wp2_with (first
                    | (at_builtin; refine wpList_append_slice _ rfl (.tmp 80) (.tmp 81) 25 25 rfl 9 ei ez 1 16 Try.underlying25 HEI.out HEZ.out HE1.out HE2.out HE3.out (by decide) _ 0 [] rfl hrow1 _ (P.take a).length ((P.take a).map Value.string) rfl hsrc1.out (by rw [HLA.out]; have := HAF.out; unfold maxLen; omega) (by rw [HLA.out]; have := HAF.out; omega) ?_; intro a2 n2 c2 w2 hrow2 hchg2 hold2; obtain ⟨hc2, hf2⟩ := app_first rfl hchg2 hold2)
                    | (at_builtin; refine wpList_append_slice _ rfl (.tmp 82) (.tmp 83) 25 25 rfl 9 ei ez 1 16 Try.underlying25 HEI.out HEZ.out HE1.out HE2.out HE3.out (by decide) _ _ _ rfl hrow2 _ (List.drop a (List.take f P)).length ((List.drop a (List.take f P)).map Value.string) rfl (HSL.out.still hc2).src (by rw [HLA.out, HD.out]; have := HAF.out; have := HPC.out; have := HD.out; unfold maxLen; omega) (by rw [HLA.out, HD.out]; have := HAF.out; have := HPC.out; have := HD.out; omega) ?_; intro a3 n3 c3 w3 hrow3 hchg3 hold3; obtain ⟨hc3, hf3⟩ := app_next hc2 hf2 hchg3 hold3))
                  refine (ack_any _ b 0 _ F pageP ((e : Int) + 1) 9 ((a : Int) + (d : Int)) (HI6.still hc3).st.here (one_all _ _ _ _ _ (by rw [HPC.out]; have := HAF.out; omega) HAF.out.2)).mono ?_
                  rintro x w7 ⟨rfl, hp⟩
                  rw [show (ackM (oneS ((e : Int) + 1) (List.drop a (List.take f P)) a false false) pageP ((e : Int) + 1) 9 ((a : Int) + (d : Int))).1 = 0 from by rw [← HD.out, one_ack]]
                  rw [← HD.out, one_ack, HD.out] at hp
                  rw [HLA.out, HD.out] at hrow3
                  obtain ⟨F7, HI7⟩ := HI6.got hc3 HD.out.symm (by simpa using hrow3) hf3 hp (Nat.le_succ i) HT.out HWN.out
                  clear hrow2 hrow3 hrow1 HI6 hp hchg2 hchg3 hold2 hold3 hc2 hf2 hf3
                  go_wp2_with fail
                  go_roundw
                  case rel => exact ⟨e, f, a + d, i + 1, false, false, a3, n3, c3, F7, rfl, rfl, by go_num, rfl, rfl, by go_num, HI7⟩
                  case measure => have := HLT.out; simp [intOf]; omega
              | true => -- @aux
                as_aux_lemma =>
                  rw [Bool.true_and] at hq
                  go_wp2_with fail
                  refine (take_any _ b 0 _ F pageP ((e : Int) + 1) 9 a HI.st.here (one_all _ _ _ _ _ (by rw [HPC.out]; have := HAF.out; omega) HAF.out.2)).mono ?_
                  rintro x w6 ⟨v', rfl, hrow, -, hch6⟩
                  rw [one_take] at hrow ⊢
                  have hseenL : Seen w6 v' ((List.drop a (List.take f P)).map Value.string) := .ofRow hrow
                  rw [HD.out] at hrow
                  obtain ⟨pv, cv, rfl, -, -⟩ := hrow.slice
                  have HI6 := HI.still hch6
                  have hA := Chg.alloc (fun _ => False) w6 (.cells #[] 9)
                  have hrow1 : RowAt (w6.alloc (.cells #[] 9)) 9 1 (.slice (some ⟨w6.heap.size, 0, none⟩) 0 0) 0 [] := ⟨rfl, .inr ⟨w6.heap.size, 0, 0, _, rfl, alloc_block w6 _, Nat.le_refl _, by simp, by simp, rfl⟩⟩
                  have hsrc1 := Lib.hid (Seen.src ((Seen.ofRow HI6.row).still hA))
                  have HSL := Lib.hid hseenL
                  obtain ⟨ei, ez, hi, hz, hs1, hs2, hs3⟩ := HE.out
                  have HEI := Lib.hid hi
                  have HEZ := Lib.hid hz
                  have HE1 := Lib.hid hs1
                  have HE2 := Lib.hid hs2
                  have HE3 := Lib.hid hs3
                  clear hi hz hs1 hs2 hs3 hrow hseenL hA
                  go_wp2_with (first
                    | (at_builtin; refine wpList_append_slice _ rfl (.tmp 80) (.tmp 81) 25 25 rfl 9 ei ez 1 16 Try.underlying25 HEI.out HEZ.out HE1.out HE2.out HE3.out (by decide) _ 0 [] rfl hrow1 _ (P.take a).length ((P.take a).map Value.string) rfl hsrc1.out (by rw [HLA.out]; have := HAF.out; unfold maxLen; omega) (by rw [HLA.out]; have := HAF.out; omega) ?_; intro a2 n2 c2 w2 hrow2 hchg2 hold2; obtain ⟨hc2, hf2⟩ := app_first rfl hchg2 hold2)
                    | (at_builtin; refine wpList_append_slice _ rfl (.tmp 82) (.tmp 83) 25 25 rfl 9 ei ez 1 16 Try.underlying25 HEI.out HEZ.out HE1.out HE2.out HE3.out (by decide) _ _ _ rfl hrow2 _ (List.drop a (List.take f P)).length ((List.drop a (List.take f P)).map Value.string) rfl (HSL.out.still hc2).src (by rw [HLA.out, HD.out]; have := HAF.out; have := HPC.out; have := HD.out; unfold maxLen; omega) (by rw [HLA.out, HD.out]; have := HAF.out; have := HPC.out; have := HD.out; omega) ?_; intro a3 n3 c3 w3 hrow3 hchg3 hold3; obtain ⟨hc3, hf3⟩ := app_next hc2 hf2 hchg3 hold3))
                  refine (ack_any _ b 0 _ F pageP ((e : Int) + 1) 9 ((a : Int) + (d : Int)) (HI6.still hc3).st.here (one_all _ _ _ _ _ (by rw [HPC.out]; have := HAF.out; omega) HAF.out.2)).mono ?_
                  rintro x w7 ⟨rfl, hp⟩
                  rw [show (ackM (oneS ((e : Int) + 1) (List.drop a (List.take f P)) a true false) pageP ((e : Int) + 1) 9 ((a : Int) + (d : Int))).1 = 0 from by rw [← HD.out, one_ack]]
                  rw [← HD.out, one_ack, HD.out] at hp
                  rw [HLA.out, HD.out] at hrow3
                  obtain ⟨F7, HI7⟩ := HI6.got hc3 HD.out.symm (by simpa using hrow3) hf3 hp (Nat.le_succ i) HT.out (.inr (.inr rfl))
                  clear hrow2 hrow3 hrow1 HI6 hp hchg2 hchg3 hold2 hold3 hc2 hf2 hf3
                  go_wp2_with fail
                  go_roundw
                  case rel => exact ⟨e, f, a + d, i + 1, true, true, a3, n3, c3, F7, rfl, rfl, by go_num, rfl, rfl, by go_num, HI7⟩
                  case measure => have := HLT.out; simp [intOf]; omega
    · have hd : decide ((i : Int) < (ws.length : Int) + (P.length : Int) + 5) = false := by simp; omega
      have hen : en = true := by
        have := HI.iT
        have := HI.fP
        rcases HI.way with h | h | h
        · omega
        · omega
        · exact h
      subst hen
      have hfl := HI.enF rfl
      subst hfl
      clear hlt
      go_upto_region 46 with fail
      go_cut [188] (fun s wx => ∃ bb, s = .bool bb ∧ bb = !cl ∧ Chg (fun _ => False) wr wx)
      case first => -- @aux
        as_aux_lemma =>
          cases cl with
          | true =>
            obtain ⟨-, ha⟩ := HI.clF rfl
            subst ha
            go_wp2_with fail
            refine (openNums_any _ b 0 _ F pageP HI.st.here (one_few _ _ _ _ _)).mono ?_
            rintro x w4 ⟨v, rfl, hrow, -, hch⟩
            rw [one_opens, if_pos rfl] at hrow
            obtain ⟨pa, pc, rfl, -, -⟩ := hrow.slice
            clear hrow
            go_wp2_with fail
            go_meet
            exact ⟨false, rfl, rfl, hch⟩
          | false =>
            by_cases ha : a = P.length
            · subst ha
              go_wp2_with fail
              refine (openNums_any _ b 0 _ F pageP HI.st.here (one_few _ _ _ _ _)).mono ?_
              rintro x w4 ⟨v, rfl, hrow, -, hch⟩
              rw [one_opens, if_neg (by simp)] at hrow
              obtain ⟨pa, pc, rfl, -, -⟩ := hrow.slice
              clear hrow
              go_wp2_with fail
              go_meet
              exact ⟨true, rfl, rfl, hch⟩
            · have hq : ((a : Int) == (P.length : Int)) = false := by rw [beq_eq_false_iff_ne]; omega
              clear ha
              go_wp2_with fail
              go_meet
              exact ⟨true, rfl, rfl, .refl _ _⟩
      case rest =>
        obtain ⟨bb, rfl, rfl, hcx⟩ := hcut
        have HJ := HI.still hcx
        clear HI hcx
        go_upto_if 188 with fail
        go_cut [10] (fun s10 wx => ∃ (p : Option Addr) (n c : Nat) (F : List Nat), s10 = .slice p n c ∧ PInv P ws.length w wx b e P.length P.length i true true (.slice p n c) F)
        case first => -- @aux
          as_aux_lemma =>
            cases cl with
            | true =>
              obtain ⟨-, ha⟩ := HJ.clF rfl
              subst ha
              go_wp2_with fail
              go_meet
              exact ⟨p, n, c, F, rfl, HJ⟩
            | false =>
              obtain ⟨d, hdd⟩ : ∃ d, (List.drop a (List.take P.length P)).length = d := ⟨_, rfl⟩
              have HD := Lib.hid hdd
              have HPC : Hid ((List.drop a (List.take P.length P)).length = P.length - a) := Lib.hid (by rw [List.length_drop, List.length_take]; omega)
              have HAF : Hid (P.length < 1000000000 ∧ a < 1000000000) := Lib.hid (by have := H40.out; have := HJ.af; omega)
              have ldd : (d : Int) ≤ 9223372036854775807 := by have := HAF.out; have := HPC.out; omega
              have wad : IntKind.i64.wrap ((a : Int) + (d : Int)) = (a : Int) + (d : Int) := IntWalk.i64_in _ (by have := HAF.out; have := HPC.out; omega)
              have HE := Lib.hid elem_str
              have HLA : Hid ((P.take a).length = a) := Lib.hid (by have := HJ.af; rw [List.length_take]; omega)
              have HEND : Hid (a + d = P.length) := Lib.hid (by have := HPC.out; have := HJ.af; omega)
              clear hdd
              go_wp2_with fail
              refine (take_any _ b 0 _ F pageP ((e : Int) + 1) 9 a HJ.st.here (one_all _ _ _ _ _ (by rw [HPC.out]; have := HAF.out; omega) HAF.out.2)).mono ?_
              rintro x w6 ⟨v', rfl, hrow, -, hch6⟩
              rw [one_take] at hrow ⊢
              have hseenL : Seen w6 v' ((List.drop a (List.take P.length P)).map Value.string) := .ofRow hrow
              rw [HD.out] at hrow
              obtain ⟨pv, cv, rfl, -, -⟩ := hrow.slice
              have HI6 := HJ.still hch6
              have hA := Chg.alloc (fun _ => False) w6 (.cells #[] 9)
              have hrow1 : RowAt (w6.alloc (.cells #[] 9)) 9 1 (.slice (some ⟨w6.heap.size, 0, none⟩) 0 0) 0 [] := ⟨rfl, .inr ⟨w6.heap.size, 0, 0, _, rfl, alloc_block w6 _, Nat.le_refl _, by simp, by simp, rfl⟩⟩
              have hsrc1 := Lib.hid (Seen.src ((Seen.ofRow HI6.row).still hA))
              have HSL := Lib.hid hseenL
              obtain ⟨ei, ez, hi, hz, hs1, hs2, hs3⟩ := HE.out
              have HEI := Lib.hid hi
              have HEZ := Lib.hid hz
              have HE1 := Lib.hid hs1
              have HE2 := Lib.hid hs2
              have HE3 := Lib.hid hs3
              clear hi hz hs1 hs2 hs3 hrow hseenL hA
              go_wp2_with (first
                | (at_builtin; refine wpList_append_slice _ rfl (.tmp 202) (.tmp 203) 25 25 rfl 9 ei ez 1 16 Try.underlying25 HEI.out HEZ.out HE1.out HE2.out HE3.out (by decide) _ 0 [] rfl hrow1 _ (P.take a).length ((P.take a).map Value.string) rfl hsrc1.out (by rw [HLA.out]; have := HAF.out; unfold maxLen; omega) (by rw [HLA.out]; have := HAF.out; omega) ?_; intro a2 n2 c2 w2 hrow2 hchg2 hold2; obtain ⟨hc2, hf2⟩ := app_first rfl hchg2 hold2)
                | (at_builtin; refine wpList_append_slice _ rfl (.tmp 204) (.tmp 205) 25 25 rfl 9 ei ez 1 16 Try.underlying25 HEI.out HEZ.out HE1.out HE2.out HE3.out (by decide) _ _ _ rfl hrow2 _ (List.drop a (List.take P.length P)).length ((List.drop a (List.take P.length P)).map Value.string) rfl (HSL.out.still hc2).src (by rw [HLA.out, HD.out]; have := HAF.out; have := HPC.out; have := HD.out; unfold maxLen; omega) (by rw [HLA.out, HD.out]; have := HAF.out; have := HPC.out; have := HD.out; omega) ?_; intro a3 n3 c3 w3 hrow3 hchg3 hold3; obtain ⟨hc3, hf3⟩ := app_next hc2 hf2 hchg3 hold3))
              refine (ack_any _ b 0 _ F pageP ((e : Int) + 1) 9 ((a : Int) + (d : Int)) (HI6.still hc3).st.here (one_all _ _ _ _ _ (by rw [HPC.out]; have := HAF.out; omega) HAF.out.2)).mono ?_
              rintro x w7 ⟨rfl, hp⟩
              rw [show (ackM (oneS ((e : Int) + 1) (List.drop a (List.take P.length P)) a true false) pageP ((e : Int) + 1) 9 ((a : Int) + (d : Int))).1 = 0 from by rw [← HD.out, one_ack]]
              rw [← HD.out, one_ack, HD.out] at hp
              rw [HLA.out, HD.out] at hrow3
              obtain ⟨F7, HI7⟩ := HI6.got hc3 HD.out.symm (by simpa using hrow3) hf3 hp (Nat.le_refl i) HJ.iT HJ.way
              clear hrow2 hrow3 hrow1 HI6 hp hchg2 hchg3 hold2 hold3 hc2 hf2 hf3
              rw [HEND.out] at HI7
              go_wp2_with fail
              go_meet
              exact ⟨a3, n3, c3, F7, rfl, HI7⟩
        case rest => -- @aux
          as_aux_lemma =>
            obtain ⟨p2, n2, c2, F2', rfl, HK⟩ := hcut
            have hgot := Seen.ofRow HK.row
            rw [List.take_length] at hgot
            have hall := (HAP.out.keep HK.st.chg).seen
            have HG := Lib.hid hgot
            have HA := Lib.hid hall
            clear hgot hall
            go_wp2_with fail
            refine (same_eq _ _ _ P HG.out HA.out).mono ?_
            rintro x w8 ⟨rfl, hch8⟩
            have H8 := HK.st.still hch8
            obtain ⟨v0, v1, v2, c0, c1, c2, F0, F1, F2'', h0', h1', h2, -⟩ := stateCells H8.here
            obtain ⟨xs, Fs, hopen⟩ := Rep.opened h2
            obtain ⟨ax, cx, rfl, -, -⟩ := hopen.val
            have c2 : w8.cell? ⟨b, 0 + 2, none⟩ = some (.slice ax 1 cx) := c2
            clear h0' h1' h2 hopen c0 c1
            go_wp2_with fail
            refine (openNums_any _ b 0 _ _ pageP H8.here (one_few _ _ _ _ _)).mono ?_
            rintro x w9 ⟨v, rfl, hrow, -, hch9⟩
            rw [one_opens, if_pos rfl] at hrow
            obtain ⟨pa, pc, rfl, -, -⟩ := hrow.slice
            clear hrow
            go_wp2_with fail
            go_ret
            exact ⟨rfl, (H8.chg.trans' hch9).below (Nat.le_refl _) (fun _ h => h.elim)⟩
end Go.Proofs.Ytaacafdlklnegaa
