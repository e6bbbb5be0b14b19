/-
  TicketCodes: a state that was encoded and decoded goes on as the one it came from; for all calls.
-/
import Derived.Test.YtaacafdlklnegaaTile
import Derived.Deep.CutBlock
import Derived.Deep.RegionLaw
namespace Go.Proofs.Ytaacafdlklnegaa
set_option linter.unusedVariables false
open Go.ChangeShapes Go.WideShapes Go.ChangeAt Go.RowKit
open Go.ChangeMaps (open_string shut_string)

theorem Twin.made {w W W7 : World} {b : Nat} {s st : State} {F F2 : List Nat} {cs : List Value} {T : TypeId} (h : Own stateR w W b 0 s F) (hc : Chg (fun _ => False) W W7) (ho : stateR.own W7 cs st F2) (hnd : F2.Nodup) (hnew : ∀ k ∈ F2, W.heap.size ≤ k) :
    Twin w (W7.alloc (.cells cs.toArray T)) b W7.heap.size s st [] := by
  have hb := h.here.lt
  have hsz := hc.size
  have hw := h.chg.size
  have hA := Chg.alloc (fun _ => False) W7 (.cells cs.toArray T)
  refine ⟨by omega, F, F2, (h.still hc).still hA, ⟨Here.made W7 T cs st F2 ho hnd, (h.chg.trans' hc).trans' hA, by omega, fun k hk => by have := hnew k hk; omega⟩, fun hk => ?_, fun hk => ?_, fun k hk hk2 => ?_, fun p hp => by cases hp⟩
  · have := hnew _ hk; omega
  · have := hb.2 _ hk; omega
  · have := hb.2 _ hk; have := hnew _ hk2; omega

/-- Behind the first calls. -/
structure KInv (w wr : World) (b i : Nat) (s : State) (F : List Nat) : Prop where
  st : Own stateR w wr b 0 s F
  reach : Reach s i

set_option maxHeartbeats 6400000 in
set_option maxRecDepth 100000 in
theorem ticketCodes_ok (w : World) (v : Value) (ops : List COp) (at_ : Int) (hat : 0 ≤ at_ ∧ at_ ≤ 255) (h : ArgRows w v 6 (ops.map COp.cells)) (ho : ∀ o ∈ ops, COpOk o) (hf : fewB ops 80 = true) :
    Calls Try.prog 10 #[v, .int .u8 at_] w fun e w' => e = .returned (.bool true) ∧ Below w.heap.size w w' := by
  have hft := few_text hf
  have HF := Lib.hid hf
  have HA := Lib.hid h
  have HO := Lib.hid ho
  have HL := Lib.hid hft
  have hln : (ops.length : Int) ≤ 9223372036854775807 := by have := hft.1; omega
  obtain ⟨k, hkl, hkt⟩ : ∃ k : Nat, k ≤ ops.length ∧ at_.tmod ((ops.length : Int) + 1) = (k : Int) := ⟨(at_ % ((ops.length : Int) + 1)).toNat, by have := Int.emod_lt_of_pos at_ (b := (ops.length : Int) + 1) (by omega); have := Int.emod_nonneg at_ (b := (ops.length : Int) + 1) (by omega); omega, by rw [Int.tmod_eq_emod_of_nonneg hat.1]; have := Int.emod_nonneg at_ (b := (ops.length : Int) + 1) (by omega); omega⟩
  have HK := Lib.hid hkl
  have wl : IntKind.i64.wrap ((ops.length : Int) + 1) = (ops.length : Int) + 1 := IntWalk.i64_in _ (by have := hft.1; omega)
  have wat : IntKind.i64.wrap at_ = at_ := IntWalk.i64_in _ (by omega)
  have wk : IntKind.i64.wrap (k : Int) = (k : Int) := IntWalk.i64_in _ (by have := hft.1; omega)
  have hl1 : (0 : Int) < (ops.length : Int) + 1 := by omega
  obtain ⟨a, cap, rfl, -⟩ := h
  clear hf ho hft hkl
  rw [List.length_map] at HA
  go_enter Try.func10, Try.ntmps10
  go_wp2_with fail
  refine (awake_any w).mono ?_
  rintro e w1 ⟨rfl, hc1⟩
  go_wp2_with fail
  refine (few_any w1 ops _ 80 (by decide) (HA.out.keep hc1) HO.out).mono ?_
  rintro e w2 ⟨rfl, rfl⟩
  rw [HF.out]
  have H1 := (Own.made (A := stateR) w1 27 _ newState (newState_own w1)).from hc1
  have HI0 : KInv w (w1.alloc (.cells #[.slice none 0 0, .slice none 0 0, .slice none 0 0] 27)) w1.heap.size 0 newState [] := ⟨H1, reach_new⟩
  clear H1
  go_wp2_with fail
  generalize w1.alloc (.cells #[.slice none 0 0, .slice none 0 0, .slice none 0 0] 27) = w3 at *
  generalize w1.heap.size = b at *
  go_loopw [7] (fun u7 wr => ∃ (i : Nat) (s : State) (F : List Nat), i ≤ k ∧ u7 = .int .i64 i ∧ KInv w wr b i s F) (fun u7 _ => k - (intOf u7).toNat)
  case atStart => exact ⟨0, newState, [], Nat.zero_le _, rfl, HI0⟩
  case round =>
    obtain ⟨i, s, F, hil, rfl, HI⟩ := hrel
    clear HI0
    by_cases hlt' : i < k
    · as_aux_lemma =>
        have hlt : i < ops.length := by have := HK.out; omega
        obtain ⟨g, off, rfl, c0, c1, c2, c3, c4, c5⟩ := argOp HA.out HI.st.chg hlt
        have HX : Hid (COpOk ops[i]) := Lib.hid (HO.out _ (List.getElem_mem hlt))
        have HTX : Hid (ops[i].text.size ≤ 1000) := Lib.hid (HL.out.2 _ (List.getElem_mem hlt))
        have h0 : (0 : Int) ≤ (i : Int) := Int.natCast_nonneg _
        have h1 : (i : Int) < (ops.length : Int) := by omega
        have h2 : (i : Int) < (k : Int) := by omega
        have HI100 : Hid (i ≤ 80) := Lib.hid (by have := HL.out.1; omega)
        have HLT := Lib.hid hlt'
        have wi : IntKind.i64.wrap ((i : Int) + 1) = (i : Int) + 1 := IntWalk.i64_in _ (by omega)
        generalize ops[i] = x at *
        clear hlt hlt'
        go_wp2_with fail
        refine (do_any _ b 0 s F x i (by have := HI100.out; omega) HX.out HI.reach.small HI.st.here).mono ?_
        rintro e w5 ⟨vl, vn, F', rfl, hh, hs, rl, rn, hown⟩
        have hreach := HI.reach.do_ x HX.out HTX.out
        have HST := Lib.hid (HI.st.step hh hs)
        obtain ⟨pl, cl, rfl, -, -⟩ := rl.slice
        obtain ⟨pn, cn, rfl, -, -⟩ := rn.slice
        generalize (doM s x).1 = T at *
        generalize (doM s x).2 = s' at *
        obtain ⟨te, tl, td, tn⟩ := T
        have HR := Lib.hid hreach
        clear hh hs hreach c0 c1 c2 c3 c4 c5 HI rl rn hown
        dsimp only
        go_wp2_with fail
        go_roundw
        case rel => exact ⟨i + 1, s', F', HLT.out, by go_num, HST.out, HR.out⟩
        case measure => have := HLT.out; simp [intOf]; omega
    · as_aux_lemma =>
        obtain rfl : i = k := by omega
        clear hlt' hil
        have HL80 : Hid (ops.length ≤ 80) := Lib.hid HL.out.1
        have HI80 : Hid (i ≤ 80) := Lib.hid (by have := HK.out; have := HL.out.1; omega)
        have HIL := Lib.hid HK.out
        have HEN : Hid (EncOk s) := Lib.hid (HI.reach.enc (by have := HI80.out; omega))
        have HELEN := Lib.hid (HI.reach.encLen HI80.out)
        have HGD := Lib.hid (good_enc s HI.reach.formed HEN.out)
        have HALL : Hid (AllOk s) := Lib.hid HI.reach.formed.allOk
        have HND : Hid F.Nodup := Lib.hid HI.st.here.nd
        obtain ⟨v0, v1, v2, e0, e1, e2, hag⟩ := stateAgg HI.st.here
        have HST := Lib.hid HI.st
        have HR := Lib.hid HI.reach
        clear HI
        go_wp2_with fail
        refine (encode_yes _ _ _ _ s F hag HND.out HEN.out HALL.out).mono ?_
        rintro e w6 ⟨rfl, hc6⟩
        clear hag e0 e1 e2
        go_wp2_with fail
        refine (decode_any _ w6 (by exact HELEN.out)).mono ?_
        rintro e w7 ⟨st, er, u0, u1, u2, F2, rfl, ho2, hnd2, hnew2, hc7, hres⟩
        obtain ⟨rfl, rfl⟩ : st = s ∧ er = 0 := by
          rcases hres with ⟨-, h2, h3⟩ | ⟨h1, -⟩
          · exact ⟨by rw [h2]; exact HGD.out.2, h3⟩
          · exact absurd HGD.out.1 h1
        have HTW := Lib.hid (Twin.made (T := 27) HST.out (hc6.trans' hc7) ho2 hnd2 (fun k hk => Nat.le_trans hc6.size (hnew2 k hk)))
        obtain ⟨_, _, _, G0, G1, G2, hv, q0, q1, q2, -⟩ := ho2
        cases hv
        obtain ⟨xs0, Fs0, op0⟩ := Rep.opened q0
        obtain ⟨xs1, Fs1, op1⟩ := Rep.opened q1
        have hsent := seen_strs q2
        obtain ⟨p0, k0, rfl, -, -⟩ := op0.val
        obtain ⟨p1, k1, rfl, -, -⟩ := op1.val
        obtain ⟨p2, k2, rfl, -, -, -⟩ := hsent
        clear hnd2 hnew2 hc6 hc7 hres op0 op1 q0 q1 q2
        have HI0 := HTW.out
        rw [List.length_map] at HI0
        go_wp2_with fail
        generalize w7.heap.size = b2 at *
        go_loopw [12] (fun u12 wr => ∃ (j : Nat) (s : State), j ≤ ops.length ∧ u12 = .int .i64 j ∧ Reach s j ∧ Twin w wr b b2 s s []) (fun u12 _ => ops.length - (intOf u12).toNat)
        case atStart => exact ⟨i, st, HIL.out, rfl, HR.out, HI0⟩
        case round =>
          obtain ⟨j, s, hjl, rfl, hreach, HT⟩ := hrel
          clear HI0 HTW HST HR
          by_cases hlt : j < ops.length
          · obtain ⟨g, off, rfl, c0, c1, c2, c3, c4, c5⟩ := argOp HA.out (.refl _ w) hlt
            have HX : Hid (COpOk ops[j]) := Lib.hid (HO.out _ (List.getElem_mem hlt))
            have HTX : Hid (ops[j].text.size ≤ 1000) := Lib.hid (HL.out.2 _ (List.getElem_mem hlt))
            have h0 : (0 : Int) ≤ (j : Int) := Int.natCast_nonneg _
            have h1 : (j : Int) < (ops.length : Int) := by omega
            have HI100 : Hid (j ≤ 1000) := Lib.hid (by have := HL80.out; omega)
            have HLT := Lib.hid hlt
            have wi : IntKind.i64.wrap ((j : Int) + 1) = (j : Int) + 1 := IntWalk.i64_in _ (by omega)
            generalize ops[j] = x at *
            have HSM := Lib.hid hreach.small
            clear hlt
            obtain ⟨T, s', hd⟩ : ∃ T s', doM s x = (T, s') := ⟨_, _, rfl⟩
            have HCA : Hid (∀ W sB L, Twin w W b b2 s sB L → Calls Try.prog 22 #[.pointer (some ⟨b, 0, none⟩), .agg #[.int .u8 x.kind, .int .u8 x.page, .int .i8 x.epoch, .int .i8 x.number, .int .i8 x.at_, .string x.text]] W fun e w' => ∃ vl vn, e = .returned (.agg #[.int .i64 T.e, vl, .bool T.done, vn]) ∧ Twin w w' b b2 s' sB ((vl, T.l.map Value.string) :: (vn, T.n.map (Value.int .i64)) :: L)) := Lib.hid fun W sB L hW => by
              have := hW.do_ x j HI100.out HX.out HSM.out
              rw [hd] at this; exact this
            have HCB : Hid (∀ W sA L, Twin w W b b2 sA s L → Calls Try.prog 22 #[.pointer (some ⟨b2, 0, none⟩), .agg #[.int .u8 x.kind, .int .u8 x.page, .int .i8 x.epoch, .int .i8 x.number, .int .i8 x.at_, .string x.text]] W fun e w' => ∃ vl vn, e = .returned (.agg #[.int .i64 T.e, vl, .bool T.done, vn]) ∧ Twin w w' b b2 sA s' ((vl, T.l.map Value.string) :: (vn, T.n.map (Value.int .i64)) :: L)) := Lib.hid fun W sA L hW => by
              have := hW.swap.do_ x j HI100.out HX.out HSM.out
              rw [hd] at this
              refine this.mono ?_
              rintro e w' ⟨vl, vn, h1, h2⟩
              exact ⟨vl, vn, h1, h2.swap⟩
            have hreach' : Reach s' (j + 1) := by
              have := hreach.do_ x HX.out HTX.out
              rw [hd] at this; exact this
            have HR' := Lib.hid hreach'
            have hz := HT.still ((Chg.refl _ wr).drewR)
            have C0 := Lib.hid c0
            have C1 := Lib.hid c1
            have C2 := Lib.hid c2
            have C3 := Lib.hid c3
            have C4 := Lib.hid c4
            have C5 := Lib.hid c5
            clear hd hreach hreach' HT c0 c1 c2 c3 c4 c5
            have c0 := hz.chg.cell C0.out; have c1 := hz.chg.cell C1.out; have c2 := hz.chg.cell C2.out; have c3 := hz.chg.cell C3.out; have c4 := hz.chg.cell C4.out; have c5 := hz.chg.cell C5.out
            go_upto_region 16 with fail
            go_region_held3 (fun w' => w'.cell? ⟨g, off + j * 6, none⟩ = some (.int .u8 x.kind) ∧ w'.cell? ⟨g, off + j * 6 + 1, none⟩ = some (.int .u8 x.page) ∧ w'.cell? ⟨g, off + j * 6 + 2, none⟩ = some (.int .i8 x.epoch) ∧ w'.cell? ⟨g, off + j * 6 + 3, none⟩ = some (.int .i8 x.number) ∧ w'.cell? ⟨g, off + j * 6 + 4, none⟩ = some (.int .i8 x.at_) ∧ w'.cell? ⟨g, off + j * 6 + 5, none⟩ = some (.string x.text))
              (first | exact ⟨c0, c1, c2, c3, c4, c5⟩ | exact ⟨hz.chg.cell C0.out, hz.chg.cell C1.out, hz.chg.cell C2.out, hz.chg.cell C3.out, hz.chg.cell C4.out, hz.chg.cell C5.out⟩ | go_keep)
              ((first
              | (go_at_call 22; (with_reducible refine (HCA.out _ _ _ hz).mono ?_); clear hz; rintro e wz ⟨vlA, vnA, rfl, hz⟩)
              | (go_at_call 22; (with_reducible refine (HCB.out _ _ _ hz).mono ?_); clear hz; rintro e wz ⟨vlB, vnB, rfl, hz⟩)
              | (go_at_call 23; (with_reducible refine (alike_eq _ T _ _ _ _ (hz.seen (by simp)) (hz.seen (by simp)) (hz.seen (by simp)) (hz.seen (by simp))).mono ?_); rintro e wq ⟨rfl, hcq⟩; have hz2 := hz.still hcq; clear hz; have hz := hz2; clear hz2 hcq)))
            all_goals (
              have HZ := Lib.hid (hz.less (L' := []) (fun p hp => by cases hp))
              clear hz
              go_wp2_with fail
              go_roundw
              case rel => exact ⟨j + 1, s', HLT.out, by go_num, HR'.out, HZ.out⟩
              case measure => have := HLT.out; simp [intOf]; omega)
          · as_aux_lemma =>
              obtain rfl : j = ops.length := by omega
              clear hlt hjl
              obtain ⟨Fa, Fb, OA, OB, -⟩ := HT.ex
              have HEN2 : Hid (EncOk s) := Lib.hid (hreach.enc (by have := HL80.out; omega))
              have HALL2 : Hid (AllOk s) := Lib.hid hreach.formed.allOk
              obtain ⟨v0, v1, v2, e0, e1, e2, hag⟩ := stateAgg OA.here
              have HNA : Hid Fa.Nodup := Lib.hid OA.here.nd
              have HNB : Hid Fb.Nodup := Lib.hid OB.here.nd
              have HOA := Lib.hid OA
              have HOB := Lib.hid OB
              clear HT hreach OA OB
              go_wp2_with fail
              refine (encode_yes _ _ _ _ s Fa hag HNA.out HEN2.out HALL2.out).mono ?_
              rintro e w8 ⟨rfl, hc8⟩
              obtain ⟨y0, y1, y2, f0, f1, f2, hag2⟩ := stateAgg (HOB.out.still hc8).here
              have HC8 := Lib.hid hc8
              clear hag e0 e1 e2 hc8
              go_wp2_with fail
              refine (encode_yes _ _ _ _ s Fb hag2 HNB.out HEN2.out HALL2.out).mono ?_
              rintro e w9 ⟨rfl, hc9⟩
              clear hag2 f0 f1 f2
              have OA9 := HOA.out.still (HC8.out.trans' hc9)
              have OB9 := HOB.out.still (HC8.out.trans' hc9)
              have hwc := OA9.chg
              obtain ⟨z0, z1, z2, g0, g1, g2, k0, k1, k2, -, -, j0, -⟩ := stateCells OA9.here
              obtain ⟨z0', z1', z2', g0', g1', g2', k0', k1', k2', -, -, j0', -⟩ := stateCells OB9.here
              have hsa := seen_strs j0
              have hsb := seen_strs j0'
              have HSA := Lib.hid hsa
              have HSB := Lib.hid hsb
              generalize (⟨(encS s).toArray⟩ : ByteArray) = bt at *
              clear hsa hsb j0 j0' OA9 OB9 HOA HOB HC8 hc9
              go_wp2_with fail
              refine (same_eq _ _ _ s.sent HSA.out HSB.out).mono ?_
              rintro e w10 ⟨rfl, hc10⟩
              go_wp2_with fail
              go_ret
              exact ⟨rfl, (hwc.trans' hc10).below (Nat.le_refl _) (fun _ h => h.elim)⟩
set_option maxHeartbeats 800000 in
set_option maxRecDepth 100000 in
theorem ticketCodes_long (w : World) (v : Value) (ops : List COp) (old : Int) (h : ArgRows w v 6 (ops.map COp.cells)) (ho : ∀ o ∈ ops, COpOk o) (hf : fewB ops 80 = false) :
    Calls Try.prog 10 #[v, .int .u8 old] w fun e w' => e = .returned (.bool true) ∧ Below w.heap.size w w' := by
  have HF := Lib.hid hf
  have HA := Lib.hid h
  have HO := Lib.hid ho
  obtain ⟨a, cap, rfl, -⟩ := h
  clear hf ho
  rw [List.length_map] at HA
  go_enter Try.func10, Try.ntmps10
  go_wp2_with fail
  refine (awake_any w).mono ?_
  rintro e w1 ⟨rfl, hc1⟩
  go_wp2_with fail
  refine (few_any w1 ops _ 80 (by decide) (HA.out.keep hc1) HO.out).mono ?_
  rintro e w2 ⟨rfl, rfl⟩
  rw [HF.out]
  go_wp2_with fail
  refine (awake_any w1).mono ?_
  rintro e w2 ⟨rfl, hc2⟩
  go_wp2_with fail
  go_ret
  exact ⟨rfl, (hc1.trans' hc2).below (Nat.le_refl _) (fun _ h => h.elim)⟩
theorem u8_rangeC {n : Int} (h0 : (Lit.int IntKind.u8 n).wf = true) : 0 ≤ n ∧ n ≤ 255 := by
  have h : IntKind.u8.min ≤ n ∧ n ≤ IntKind.u8.max := by simpa [Lit.wf] using h0
  have e1 : IntKind.u8.min = 0 := by decide
  have e2 : IntKind.u8.max = 255 := by decide
  rw [e1, e2] at h; exact h
theorem ticketCodes_walk (w : World) (v : Value) (ops : List COp) (old : Int) (hold : 0 ≤ old ∧ old ≤ 255) (h : ArgRows w v 6 (ops.map COp.cells)) (ho : ∀ o ∈ ops, COpOk o) :
    Calls Try.prog 10 #[v, .int .u8 old] w fun e w' => e = .returned (.bool true) ∧ Below w.heap.size w w' := by
  cases hf : fewB ops 80 with
  | true => exact ticketCodes_ok w v ops old hold h ho hf
  | false => exact ticketCodes_long w v ops old h ho hf
set_option maxRecDepth 100000 in
theorem ticketCodes_lifted (os : Os) (started : os.Started) (H : Type) (enc : TypeId × Value → H) :
    ReturnsInHanded {} Try.checked os 10 .any (Rows.ticketCodesSpec.pre6 enc Try.prog Try.f10 [] false) (Rows.ticketCodesSpec.post enc Try.prog Try.f10 false true false false) := by
  refine law_lift (C := Try.checked) (tb := 4) started Try.own Try.laidOut (by kernel_rfl) Try.func10 (by kernel_rfl) rfl Try.underlying4 rfl ?_
    (ChangeSpec.witness6 (enc := enc) (C := Try.checked) false ⟨#[], #[.slice none 0 0, .int .u8 0], []⟩ 8 (by kernel_rfl) (by kernel_rfl) (by kernel_rfl) (by kernel_rfl)) ?_
  · intro ds h
    match ds, h with
    | [_, _], _ => rfl
  · intro W base vs ds ps hval hA hsz
    have hp : Try.f10.params.toList = [42, 5] := by rw [Try.params10]
    rw [hp] at hval hA hsz
    obtain ⟨v0, vs0, d0, ds0, p0, q0, rfl, rfl, rfl, h0, r0⟩ := trodAll_cons hA
    obtain ⟨v1, vs1, d1, ds1, p1, q1, rfl, rfl, rfl, h1, r1⟩ := trodAll_cons r0
    obtain ⟨rfl, rfl, rfl⟩ := trodAll_nil r1
    obtain ⟨a0, rfl, w0⟩ := open_ops (hval 0 42 v0 rfl rfl) h0
    obtain ⟨a1, rfl, rfl, rfl, w1⟩ := open_int Try.underlying5 (hval 1 5 v1 rfl rfl) h1
    exact ticketCodes_walk W a0.1 a0.2 a1 (u8_rangeC w1) w0.1 w0.2

theorem ticketCodes_holds : Rows.TicketCodesSaid :=
  OpenClaim.holds_of_wide 10 Try.f10 rfl rfl rfl rfl rfl rfl rfl ⟨rfl, rfl, rfl, rfl, rfl⟩ rfl rfl rfl rfl rfl (by kernel_rfl) Try.func10 (by kernel_rfl)
    (of_decide_eq_true (by kernel_rfl)) (by unfold Func.isWrapper; first | (rw [if_pos (by decide +kernel)]; kernel_rfl) | (rw [if_neg (by decide +kernel)]; exact ⟨rfl, rfl⟩))
    (fun os started H enc _ => ticketCodes_lifted os started H enc)
#print axioms ticketCodes_holds
end Go.Proofs.Ytaacafdlklnegaa
