/-
  TicketEpochs: an epoch that is not the highest one claimed can do nothing, and changes nothing; for all calls.
-/
import Derived.Test.YtaacafdlklnegaaTikw
import Derived.Deep.CutBlock
namespace Go.Proofs.Ytaacafdlklnegaa
set_option linter.unusedVariables false
open Go.ChangeShapes Go.WideShapes Go.ChangeAt Go.RowKit
open Go.ChangeMaps (open_string shut_string)

/-- Behind the calls, with a highest epoch. -/
structure EInv (w wr : World) (b i : Nat) (s : State) (h : Int) (F : List Nat) : Prop where
  st : Own stateR w wr b 0 s F
  reach : Reach s i
  hi : h = ownEp s (pageN 0)
  b0 : 0 ≤ h
  b1 : h ≤ 127

set_option maxHeartbeats 6400000 in
set_option maxRecDepth 100000 in
theorem ticketEpochs_ok (w : World) (v : Value) (ops : List COp) (old : Int) (hold : 0 ≤ old ∧ old ≤ 255) (h : ArgRows w v 6 (ops.map COp.cells)) (ho : ∀ o ∈ ops, COpOk o) (hf : fewB ops 60 = true) :
    Calls Try.prog 7 #[v, .int .u8 old] w fun e w' => e = .returned (.bool true) ∧ Below w.heap.size w w' := by
  have hft := few_text hf
  have HF := Lib.hid hf
  have HA := Lib.hid h
  have HO := Lib.hid ho
  have HL := Lib.hid hft
  have HOLD := Lib.hid hold
  have hln : (ops.length : Int) ≤ 9223372036854775807 := by have := hft.1; omega
  obtain ⟨a, cap, rfl, -⟩ := h
  clear hf ho hft hold
  rw [List.length_map] at HA
  go_enter Try.func7, Try.ntmps7
  go_wp2_with fail
  refine (awake_any w).mono ?_
  rintro e w1 ⟨rfl, hc1⟩
  go_wp2_with fail
  refine (few_any w1 ops _ 60 (by decide) (HA.out.keep hc1) HO.out).mono ?_
  rintro e w2 ⟨rfl, rfl⟩
  rw [HF.out]
  have H1 := (Own.made (A := stateR) w1 27 _ newState (newState_own w1)).from hc1
  have HI0 : EInv w (w1.alloc (.cells #[.slice none 0 0, .slice none 0 0, .slice none 0 0] 27)) w1.heap.size 0 newState 0 [] := ⟨H1, reach_new, rfl, by decide, by decide⟩
  clear H1
  go_wp2_with fail
  generalize w1.alloc (.cells #[.slice none 0 0, .slice none 0 0, .slice none 0 0] 27) = w3 at *
  generalize w1.heap.size = b at *
  go_loopw [6, 7] (fun u6 u7 wr => ∃ (i : Nat) (s : State) (hh : Int) (F : List Nat), i ≤ ops.length ∧ u6 = .int .i64 hh ∧ u7 = .int .i64 i ∧ EInv w wr b i s hh F) (fun _ u7 _ => ops.length - (intOf u7).toNat)
  case atStart => exact ⟨0, newState, 0, [], Nat.zero_le _, rfl, rfl, HI0⟩
  case round =>
    obtain ⟨i, s, hi, F, hil, rfl, rfl, HI⟩ := hrel
    clear HI0
    by_cases hlt : i < ops.length
    · as_aux_lemma =>
        obtain ⟨g, off, rfl, c0, c1, c2, c3, c4, c5⟩ := argOp HA.out HI.st.chg hlt
        have HX : Hid (COpOk ops[i]) := Lib.hid (HO.out _ (List.getElem_mem hlt))
        have HTX : Hid (ops[i].text.size ≤ 1000) := Lib.hid (HL.out.2 _ (List.getElem_mem hlt))
        have h0 : (0 : Int) ≤ (i : Int) := Int.natCast_nonneg _
        have h1 : (i : Int) < (ops.length : Int) := by omega
        have HI100 : Hid (i ≤ 60) := Lib.hid (by have := HL.out.1; omega)
        have HLT := Lib.hid hlt
        have wi : IntKind.i64.wrap ((i : Int) + 1) = (i : Int) + 1 := IntWalk.i64_in _ (by omega)
        generalize ops[i] = x at *
        clear hlt
        have hhere := HI.st.here.alloc (.cells #[.int .u8 x.kind, .int .u8 x.page, .int .i8 x.epoch, .int .i8 x.number, .int .i8 x.at_, .string x.text] 48)
        go_wp2_with fail
        refine (do_any _ b 0 s F x i (by have := HI100.out; omega) HX.out HI.reach.small hhere).mono ?_
        rintro e w5 ⟨vl, vn, F', rfl, hh, hs, rl, rn, hown⟩
        obtain ⟨pl, cl, rfl, -, -⟩ := rl.slice
        obtain ⟨pn, cn, rfl, -, -⟩ := rn.slice
        have hep := ownEp_do s x
        have hpos : (x.kind % 8).toNat = 0 → (doM s x).1.e = 0 → 1 ≤ x.epoch := fun h h2 => by
          have hd : doM s x = (⟨(claimM s x.name x.epoch).1, [], false, []⟩, (claimM s x.name x.epoch).2) := by unfold doM; rw [h]; rfl
          rw [hd] at h2
          unfold claimM at h2
          split at h2
          · simp at h2
          · omega
        have hreach := HI.reach.do_ x HX.out HTX.out
        generalize (doM s x).1 = T at *
        generalize (doM s x).2 = s' at *
        obtain ⟨te, tl, td, tn⟩ := T
        dsimp only at hep ⊢
        clear hown rl rn
        obtain ⟨hst', hbox⟩ := after_do HI.st x hh hs
        have hbB : ∀ {i : Nat} {u : Value}, w5.cell? ⟨wr.heap.size, i, none⟩ = some u → (w5.alloc (.cells #[.int .i64 te, .slice pl tl.length cl, .bool td, .slice pn tn.length cn] 50)).cell? ⟨wr.heap.size, i, none⟩ = some u := fun h => (Chg.alloc (fun _ => False) w5 _).cell h
        have d0 := hbB (cell_of_block (i := 0) hbox rfl)
        have d1 := hbB (cell_of_block (i := 1) hbox rfl)
        have d2 := hbB (cell_of_block (i := 2) hbox rfl)
        have HST := Lib.hid (hst'.still (Chg.alloc (fun _ => False) w5 (.cells #[.int .i64 te, .slice pl tl.length cl, .bool td, .slice pn tn.length cn] 50)))
        obtain ⟨k, q, u, hk8, hq4, -, hkn, hqn, -, hkt, hqt, -, hwe, -⟩ := op_nums x HX.out
        rw [hkn, hqn] at hep
        rw [hkn] at hpos
        dsimp only at hpos
        have HPOS := Lib.hid hpos
        clear hpos
        have HR := Lib.hid hreach
        have HBI := Lib.hid (And.intro HI.b0 HI.b1)
        have HHI := Lib.hid HI.hi
        clear hh hs hst' hbox hhere hkn hqn hk8 hq4 hreach c0 c1 c2 c3 c4 c5 hbB HI
        by_cases hq : q = 0
        · subst hq
          by_cases hk : k = 0
          · subst hk
            by_cases ht : te = 0
            · subst ht
              rw [if_pos ⟨rfl, rfl, rfl⟩] at hep
              have HEP := Lib.hid hep
              clear hep
              go_wp2_with fail
              go_roundw
              case rel =>
                exact ⟨i + 1, s', x.epoch, F', HLT.out, rfl, by go_num, HST.out, HR.out, HEP.out.symm, by have := HPOS.out (by trivial) (by trivial); omega, HX.out.epoch.2⟩
              case measure => have := HLT.out; simp [intOf]; omega
            · rw [if_neg (fun x => ht x.2.2)] at hep
              have hb2 : (te == 0) = false := by simpa using ht
              have HEP := Lib.hid hep
              clear hep ht
              go_wp2_with fail
              go_roundw
              case rel => exact ⟨i + 1, s', hi, F', HLT.out, rfl, by go_num, HST.out, HR.out, by rw [HEP.out]; exact HHI.out, HBI.out.1, HBI.out.2⟩
              case measure => have := HLT.out; simp [intOf]; omega
          · rw [if_neg (fun x => hk x.2.1)] at hep
            have hb2 : ((k : Int) == 0) = false := by simp; omega
            have HEP := Lib.hid hep
            clear hep hk
            go_wp2_with fail
            go_roundw
            case rel => exact ⟨i + 1, s', hi, F', HLT.out, rfl, by go_num, HST.out, HR.out, by rw [HEP.out]; exact HHI.out, HBI.out.1, HBI.out.2⟩
            case measure => have := HLT.out; simp [intOf]; omega
        · rw [if_neg (fun x => hq x.1)] at hep
          have hb2 : ((q : Int) == 0) = false := by simp; omega
          have HEP := Lib.hid hep
          clear hep hq
          go_wp2_with fail
          go_roundw
          case rel => exact ⟨i + 1, s', hi, F', HLT.out, rfl, by go_num, HST.out, HR.out, by rw [HEP.out]; exact HHI.out, HBI.out.1, HBI.out.2⟩
          case measure => have := HLT.out; simp [intOf]; omega
    · as_aux_lemma =>
        obtain rfl : i = ops.length := by omega
        clear hlt hil
        by_cases h2 : hi < 2
        · have hd2 : decide (hi < 2) = true := by simpa using h2
          clear h2
          go_wp2_with fail
          go_ret
          exact ⟨rfl, HI.st.chg.below (Nat.le_refl _) (fun _ h => h.elim)⟩
        · have hd2 : decide (hi < 2) = false := by simpa using h2
          obtain ⟨m, hm0, hm1, hm2⟩ : ∃ m, 0 ≤ m ∧ m < hi - 1 ∧ old.tmod (hi - 1) = m := ⟨old % (hi - 1), Int.emod_nonneg _ (by omega), Int.emod_lt_of_pos _ (by omega), Int.tmod_eq_emod_of_nonneg HOLD.out.1⟩
          have hb1 := HI.b1
          have k1 : IntKind.i64.wrap (hi - 1) = hi - 1 := IntWalk.i64_in _ (by omega)
          have k2 : IntKind.i64.wrap old = old := IntWalk.i64_in _ (by have := HOLD.out; omega)
          have k3 : IntKind.i64.wrap (1 + m) = 1 + m := IntWalk.i64_in _ (by omega)
          have hz1 : ¬ hi - 1 = 0 := by omega
          have hz2 : (hi - 1 == 0) = false := by simpa using hz1
          have HOL : Hid (Old s (pageN 0) (1 + m)) := Lib.hid (old_of s (pageN 0) (1 + m) (by rw [pageN_size]; omega) (by omega) (by rw [← HI.hi]; omega))
          have hx0 := wrap_i8
          obtain ⟨v0, v1, v2, e0, e1, e2, hag⟩ := stateAgg HI.st.here
          have HL60 : Hid (ops.length ≤ 60) := Lib.hid HL.out.1
          have HEN : Hid (EncOk s) := Lib.hid (HI.reach.enc (by have := HL60.out; omega))
          have HFM : Hid (AllOk s) := Lib.hid HI.reach.formed.allOk
          have HSM : Hid (Small s 60) := Lib.hid (HI.reach.small.mono (by have := HL60.out; omega))
          have HND : Hid F.Nodup := Lib.hid HI.st.here.nd
          have HST := Lib.hid HI.st
          clear hx0 h2 hb1 hm0 hm1 HI
          go_wp2_with fail
          refine (encode_yes _ _ _ _ s F hag HND.out HEN.out HFM.out).mono ?_
          rintro e w4 ⟨rfl, hc4⟩
          have HS4 := HST.out.still hc4
          generalize hbytes : (⟨(encS s).toArray⟩ : ByteArray) = bt at *
          have HBT := Lib.hid hbytes
          clear hbytes hag e0 e1 e2 hc4
          go_wp2_with fail
          refine (name_any _ 0 0 (by decide) (by decide) (by decide)).mono ?_
          rintro e w5 ⟨rfl, rfl⟩
          go_wp2_with fail
          clear k1 k2 k3 hz1 hz2 hm2 hd2
          generalize 1 + m = ep at *
          go_loopw [14] (fun u14 wr' => ∃ (n : Nat) (F' : List Nat), n ≤ 6 ∧ u14 = .int .i64 n ∧ Own stateR w wr' b 0 s F') (fun u14 _ => 6 - (intOf u14).toNat)
          case atStart => exact ⟨1, F, by decide, rfl, HS4⟩
          case round =>
            obtain ⟨n, F', hn, rfl, HS⟩ := hrel
            clear HS4
            by_cases hlt : n < 6
            · have hd6 : decide ((n : Int) < 6) = true := by simp; omega
              have HLT := Lib.hid hlt
              have wn : IntKind.i64.wrap ((n : Int) + 1) = (n : Int) + 1 := IntWalk.i64_in _ (by omega)
              clear hlt hn
              go_wp2_with fail
              refine (take_any _ b 0 s F' (pageN 0) ep n 0 HS.here (HSM.out.ok (by decide))).mono ?_
              rintro e w6 ⟨v6, rfl, hrow, -, hc6⟩
              rw [HOL.out.take] at hrow ⊢
              obtain ⟨p6, c6, rfl, -, -⟩ := hrow.slice
              have HS6 := HS.still hc6
              clear HS hrow hc6
              go_wp2_with fail
              refine (ask_any _ b 0 s F' (pageN 0) ep n ⟨#[120]⟩ HS6.here ⟨by have := HSM.out.entries; omega⟩ ⟨by have := HSM.out.sent; omega⟩).mono ?_
              rintro e w7 ⟨rfl, hp⟩
              rw [HOL.out.ask] at hp ⊢
              obtain ⟨F7, HS7⟩ := hp.own HS6
              clear HS6 hp
              go_wp2_with fail
              refine (ack_any _ b 0 s F7 (pageN 0) ep n 0 HS7.here (HSM.out.ok (by decide))).mono ?_
              rintro e w8 ⟨rfl, hp⟩
              rw [HOL.out.ack] at hp ⊢
              obtain ⟨F8, HS8⟩ := hp.own HS7
              clear HS7 hp
              go_wp2_with fail
              refine (close_any _ b 0 s F8 (pageN 0) ep n HS8.here (fun y hy => ⟨((HSM.out.ok (by decide)) y hy).few, ((HSM.out.ok (by decide)) y hy).ack, ((HSM.out.ok (by decide)) y hy).ackFew⟩)).mono ?_
              rintro e w9 ⟨rfl, hp⟩
              rw [HOL.out.close] at hp ⊢
              obtain ⟨F9, HS9⟩ := hp.own HS8
              clear HS8 hp
              go_wp2_with fail
              refine (claim_any _ b 0 s F9 (pageN 0) ep HS9.here (by rw [pageN_size]; decide) ⟨by have := HSM.out.owners; omega⟩).mono ?_
              rintro e w10 ⟨rfl, hp⟩
              rw [HOL.out.claim] at hp ⊢
              obtain ⟨F10, HS10⟩ := hp.own HS9
              clear HS9 hp
              go_wp2_with fail
              go_roundw
              case rel => exact ⟨n + 1, F10, HLT.out, by go_num, HS10⟩
              case measure => have := HLT.out; simp [intOf]; omega
            · obtain rfl : n = 6 := by omega
              clear hlt hn
              have HND' : Hid F'.Nodup := Lib.hid HS.here.nd
              obtain ⟨v0', v1', v2', e0', e1', e2', hag'⟩ := stateAgg HS.here
              have HSS := Lib.hid HS
              clear HS
              go_wp2_with fail
              refine (encode_yes _ _ _ _ s F' hag' HND'.out HEN.out HFM.out).mono ?_
              rintro e w6 ⟨rfl, hc6⟩
              rw [HBT.out]
              clear hag' e0' e1' e2'
              go_wp2_with fail
              go_ret
              exact ⟨rfl, (HSS.out.still hc6).chg.below (Nat.le_refl _) (fun _ h => h.elim)⟩
set_option maxHeartbeats 800000 in
set_option maxRecDepth 100000 in
theorem ticketEpochs_long (w : World) (v : Value) (ops : List COp) (old : Int) (h : ArgRows w v 6 (ops.map COp.cells)) (ho : ∀ o ∈ ops, COpOk o) (hf : fewB ops 60 = false) :
    Calls Try.prog 7 #[v, .int .u8 old] w fun e w' => e = .returned (.bool true) ∧ Below w.heap.size w w' := by
  have HF := Lib.hid hf
  have HA := Lib.hid h
  have HO := Lib.hid ho
  obtain ⟨a, cap, rfl, -⟩ := h
  clear hf ho
  rw [List.length_map] at HA
  go_enter Try.func7, Try.ntmps7
  go_wp2_with fail
  refine (awake_any w).mono ?_
  rintro e w1 ⟨rfl, hc1⟩
  go_wp2_with fail
  refine (few_any w1 ops _ 60 (by decide) (HA.out.keep hc1) HO.out).mono ?_
  rintro e w2 ⟨rfl, rfl⟩
  rw [HF.out]
  go_wp2_with fail
  refine (awake_any w1).mono ?_
  rintro e w2 ⟨rfl, hc2⟩
  go_wp2_with fail
  go_ret
  exact ⟨rfl, (hc1.trans' hc2).below (Nat.le_refl _) (fun _ h => h.elim)⟩
theorem u8_range' {n : Int} (h0 : (Lit.int IntKind.u8 n).wf = true) : 0 ≤ n ∧ n ≤ 255 := by
  have h : IntKind.u8.min ≤ n ∧ n ≤ IntKind.u8.max := by simpa [Lit.wf] using h0
  have e1 : IntKind.u8.min = 0 := by decide
  have e2 : IntKind.u8.max = 255 := by decide
  rw [e1, e2] at h; exact h
theorem ticketEpochs_walk (w : World) (v : Value) (ops : List COp) (old : Int) (hold : 0 ≤ old ∧ old ≤ 255) (h : ArgRows w v 6 (ops.map COp.cells)) (ho : ∀ o ∈ ops, COpOk o) :
    Calls Try.prog 7 #[v, .int .u8 old] w fun e w' => e = .returned (.bool true) ∧ Below w.heap.size w w' := by
  cases hf : fewB ops 60 with
  | true => exact ticketEpochs_ok w v ops old hold h ho hf
  | false => exact ticketEpochs_long w v ops old h ho hf
set_option maxRecDepth 100000 in
theorem ticketEpochs_lifted (os : Os) (started : os.Started) (H : Type) (enc : TypeId × Value → H) :
    ReturnsInHanded {} Try.checked os 7 .any (Rows.ticketEpochsSpec.pre6 enc Try.prog Try.f7 [] false) (Rows.ticketEpochsSpec.post enc Try.prog Try.f7 false true false false) := by
  refine law_lift (C := Try.checked) (tb := 4) started Try.own Try.laidOut (by kernel_rfl) Try.func7 (by kernel_rfl) rfl Try.underlying4 rfl ?_
    (ChangeSpec.witness6 (enc := enc) (C := Try.checked) false ⟨#[], #[.slice none 0 0, .int .u8 0], []⟩ 8 (by kernel_rfl) (by kernel_rfl) (by kernel_rfl) (by kernel_rfl)) ?_
  · intro ds h
    match ds, h with
    | [_, _], _ => rfl
  · intro W base vs ds ps hval hA hsz
    have hp : Try.f7.params.toList = [42, 5] := by rw [Try.params7]
    rw [hp] at hval hA hsz
    obtain ⟨v0, vs0, d0, ds0, p0, q0, rfl, rfl, rfl, h0, r0⟩ := trodAll_cons hA
    obtain ⟨v1, vs1, d1, ds1, p1, q1, rfl, rfl, rfl, h1, r1⟩ := trodAll_cons r0
    obtain ⟨rfl, rfl, rfl⟩ := trodAll_nil r1
    obtain ⟨a0, rfl, w0⟩ := open_ops (hval 0 42 v0 rfl rfl) h0
    obtain ⟨a1, rfl, rfl, rfl, w1⟩ := open_int Try.underlying5 (hval 1 5 v1 rfl rfl) h1
    exact ticketEpochs_walk W a0.1 a0.2 a1 (u8_range' w1) w0.1 w0.2

theorem ticketEpochs_holds : Rows.TicketEpochsSaid :=
  OpenClaim.holds_of_wide 7 Try.f7 rfl rfl rfl rfl rfl rfl rfl ⟨rfl, rfl, rfl, rfl, rfl⟩ rfl rfl rfl rfl rfl (by kernel_rfl) Try.func7 (by kernel_rfl)
    (of_decide_eq_true (by kernel_rfl)) (by unfold Func.isWrapper; first | (rw [if_pos (by decide +kernel)]; kernel_rfl) | (rw [if_neg (by decide +kernel)]; exact ⟨rfl, rfl⟩))
    (fun os started H enc _ => ticketEpochs_lifted os started H enc)
#print axioms ticketEpochs_holds
end Go.Proofs.Ytaacafdlklnegaa
