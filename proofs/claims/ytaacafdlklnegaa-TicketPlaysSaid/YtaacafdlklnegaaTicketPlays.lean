/-
  TicketPlays: calls have the results of the reference, and the state has its bytes; for all calls.
-/
import Derived.Test.YtaacafdlklnegaaTilo
import Derived.Deep.CutBlock
import Derived.Deep.RegionLaw
namespace Go.Proofs.Ytaacafdlklnegaa
set_option linter.unusedVariables false
open Go.ChangeShapes Go.WideShapes Go.ChangeAt Go.RowKit
open Go.ChangeMaps (open_string shut_string)

theorem Pair.made (w W : World) (hc : Chg (fun _ => False) w W) : Pair w ((W.alloc (.cells #[.slice none 0 0, .slice none 0 0, .slice none 0 0] 27)).alloc (.cells #[.int .i64 0, .int .i64 0, .int .i64 0, .int .i64 0, .slice none 0 0, .slice none 0 0] 58)) W.heap.size (W.heap.size + 1) newState newR [] [] := by
  have h1 := ((Own.made (A := stateR) W 27 _ newState (newState_own W)).from hc).still (Chg.alloc _ _ (.cells #[.int .i64 0, .int .i64 0, .int .i64 0, .int .i64 0, .slice none 0 0, .slice none 0 0] 58))
  have h2 := (Own.made (A := rworldR) (W.alloc (.cells #[.slice none 0 0, .slice none 0 0, .slice none 0 0] 27)) 58 _ newR (newR_own _)).from (hc.trans' (Chg.alloc _ _ _))
  rw [show (W.alloc (.cells #[.slice none 0 0, .slice none 0 0, .slice none 0 0] 27)).heap.size = W.heap.size + 1 from by simp] at h2
  exact ⟨by omega, [], [], h1, h2, by simp, by simp, by simp, by simp, by simp⟩

set_option maxHeartbeats 6400000 in
set_option maxRecDepth 100000 in
theorem ticketPlays_ok (w : World) (v : Value) (ops : List COp) (h : ArgRows w v 6 (ops.map COp.cells)) (ho : ∀ o ∈ ops, COpOk o) (hf : fewB ops 100 = true) :
    Calls Try.prog 6 #[v] w fun e w' => e = .returned (.bool true) ∧ Below w.heap.size w w' := by
  have hft := few_text hf
  have HF := Lib.hid hf
  have HA := Lib.hid h
  have HO := Lib.hid ho
  have HL := Lib.hid hft
  have hln : (ops.length : Int) ≤ 9223372036854775807 := by have := hft.1; omega
  obtain ⟨a, cap, rfl, -⟩ := h
  clear hf ho hft
  rw [List.length_map] at HA
  go_enter Try.func6, Try.ntmps6
  go_wp2_with fail
  refine (awake_any w).mono ?_
  rintro e w1 ⟨rfl, hc1⟩
  go_wp2_with fail
  refine (few_any w1 ops _ 100 (by decide) (HA.out.keep hc1) HO.out).mono ?_
  rintro e w2 ⟨rfl, rfl⟩
  rw [HF.out]
  have HI0 := Pair.made w w1 hc1
  go_wp2_with fail
  generalize (w1.alloc (.cells #[.slice none 0 0, .slice none 0 0, .slice none 0 0] 27)).alloc (.cells #[.int .i64 0, .int .i64 0, .int .i64 0, .int .i64 0, .slice none 0 0, .slice none 0 0] 58) = w3 at *
  generalize hb2 : w1.heap.size + 1 = b2 at *
  clear hb2
  generalize w1.heap.size = b at *
  go_loopw [5] (fun u5 wr => ∃ (i : Nat) (s : State) (r : RWorld), i ≤ ops.length ∧ u5 = .int .i64 i ∧ Reach s i ∧ Sim s r ∧ RSmall r i ∧ Pair w wr b b2 s r [] []) (fun u5 _ => ops.length - (intOf u5).toNat)
  case atStart => exact ⟨0, newState, newR, Nat.zero_le _, rfl, reach_new, sim_new, rsmall_new, HI0⟩
  case round =>
    obtain ⟨i, s, r, hil, rfl, hreach, hsim, hrs, HT⟩ := hrel
    clear HI0
    have HL100 : Hid (ops.length ≤ 100) := Lib.hid HL.out.1
    by_cases hlt : i < ops.length
    · as_aux_lemma =>
        obtain ⟨g, off, rfl, c0, c1, c2, c3, c4, c5⟩ := argOp HA.out (.refl _ w) hlt
        have HX : Hid (COpOk ops[i]) := Lib.hid (HO.out _ (List.getElem_mem hlt))
        have HTX : Hid (ops[i].text.size ≤ 1000) := Lib.hid (HL.out.2 _ (List.getElem_mem hlt))
        have h0 : (0 : Int) ≤ (i : Int) := Int.natCast_nonneg _
        have h1 : (i : Int) < (ops.length : Int) := by omega
        have HI100 : Hid (i ≤ 1000) := Lib.hid (by have := HL100.out; omega)
        have HLT := Lib.hid hlt
        have wi : IntKind.i64.wrap ((i : Int) + 1) = (i : Int) + 1 := IntWalk.i64_in _ (by omega)
        generalize ops[i] = x at *
        have HSM := Lib.hid hreach.small
        have HROK := Lib.hid (hrs.rok hsim HI100.out)
        clear hlt
        obtain ⟨T, s', hd⟩ : ∃ T s', doM s x = (T, s') := ⟨_, _, rfl⟩
        obtain ⟨r', hdr⟩ : ∃ r', doR r x = (T, r') := ⟨(doR r x).2, by have := (hsim.do_ x).1; rw [hd] at this; rw [show T = (doR r x).1 from this]⟩
        have HCA : Hid (∀ W rB L M, Pair w W b b2 s rB L M → Calls Try.prog 22 #[.pointer (some ⟨b, 0, none⟩), .agg #[.int .u8 x.kind, .int .u8 x.page, .int .i8 x.epoch, .int .i8 x.number, .int .i8 x.at_, .string x.text]] W fun e w' => ∃ vl vn, e = .returned (.agg #[.int .i64 T.e, vl, .bool T.done, vn]) ∧ Pair w w' b b2 s' rB ((vl, T.l.map Value.string) :: (vn, T.n.map (Value.int .i64)) :: L) M) := Lib.hid fun W rB L M hW => by
          have := hW.do_ x i HI100.out HX.out HSM.out
          rw [hd] at this; exact this
        have HCB : Hid (∀ W sA L, Pair w W b b2 sA r L [] → Calls Try.prog 24 #[.pointer (some ⟨b2, 0, none⟩), .agg #[.int .u8 x.kind, .int .u8 x.page, .int .i8 x.epoch, .int .i8 x.number, .int .i8 x.at_, .string x.text]] W fun e w' => ∃ vl vn, e = .returned (.agg #[.int .i64 T.e, vl, .bool T.done, vn]) ∧ Pair w w' b b2 sA r' L [(vl, T.l.map Value.string), (vn, T.n.map (Value.int .i64))]) := Lib.hid fun W sA L hW => by
          have := hW.doR x HX.out HROK.out
          rw [hdr] at this; exact this
        have hreach' : Reach s' (i + 1) := by
          have := hreach.do_ x HX.out HTX.out
          rw [hd] at this; exact this
        have hsim' : Sim s' r' := by
          have := (hsim.do_ x).2
          rw [hd, hdr] at this; exact this
        have hrs' : RSmall r' (i + 1) := by
          have := hrs.do_ x HX.out HTX.out
          rw [hdr] at this; exact this
        have HR' := Lib.hid hreach'
        have HS' := Lib.hid hsim'
        have HQ' := Lib.hid hrs'
        have hz := HT.still ((Chg.refl _ wr).drewR)
        have C0 := Lib.hid c0
        have C1 := Lib.hid c1
        have C2 := Lib.hid c2
        have C3 := Lib.hid c3
        have C4 := Lib.hid c4
        have C5 := Lib.hid c5
        clear hd hdr hreach hreach' hsim hsim' hrs hrs' HT c0 c1 c2 c3 c4 c5
        have c0 := hz.chg.cell C0.out; have c1 := hz.chg.cell C1.out; have c2 := hz.chg.cell C2.out; have c3 := hz.chg.cell C3.out; have c4 := hz.chg.cell C4.out; have c5 := hz.chg.cell C5.out
        go_upto_region 7 with fail
        go_region_held3 (fun w' => w'.cell? ⟨g, off + i * 6, none⟩ = some (.int .u8 x.kind) ∧ w'.cell? ⟨g, off + i * 6 + 1, none⟩ = some (.int .u8 x.page) ∧ w'.cell? ⟨g, off + i * 6 + 2, none⟩ = some (.int .i8 x.epoch) ∧ w'.cell? ⟨g, off + i * 6 + 3, none⟩ = some (.int .i8 x.number) ∧ w'.cell? ⟨g, off + i * 6 + 4, none⟩ = some (.int .i8 x.at_) ∧ w'.cell? ⟨g, off + i * 6 + 5, none⟩ = some (.string x.text))
          (first | exact ⟨c0, c1, c2, c3, c4, c5⟩ | exact ⟨hz.chg.cell C0.out, hz.chg.cell C1.out, hz.chg.cell C2.out, hz.chg.cell C3.out, hz.chg.cell C4.out, hz.chg.cell C5.out⟩ | go_keep)
          ((first
          | (go_at_call 22; (with_reducible refine (HCA.out _ _ _ _ hz).mono ?_); clear hz; rintro e wz ⟨vlA, vnA, rfl, hz⟩)
          | (go_at_call 24; (with_reducible refine (HCB.out _ _ _ hz).mono ?_); clear hz; rintro e wz ⟨vlB, vnB, rfl, hz⟩)
          | (go_at_call 23; (with_reducible refine (alike_eq _ T _ _ _ _ (hz.seenL (by simp)) (hz.seenM (by simp)) (hz.seenL (by simp)) (hz.seenM (by simp))).mono ?_); rintro e wq ⟨rfl, hcq⟩; have hz2 := hz.still hcq; clear hz; have hz := hz2; clear hz2 hcq)))
        all_goals (
          have HZ := Lib.hid hz.bare
          clear hz
          go_wp2_with fail
          go_roundw
          case rel => exact ⟨i + 1, s', r', HLT.out, by go_num, HR'.out, HS'.out, HQ'.out, HZ.out⟩
          case measure => have := HLT.out; simp [intOf]; omega)
    · as_aux_lemma =>
        obtain rfl : i = ops.length := by omega
        clear hlt hil
        obtain ⟨Fa, Fb, OA, OB, -⟩ := HT.ex
        have HEN2 : Hid (EncOk s) := Lib.hid (hreach.enc (by have := HL100.out; omega))
        have HALL2 : Hid (AllOk s) := Lib.hid hreach.formed.allOk
        have HBO := Lib.hid (hsim.bytesOk hrs hreach HL100.out)
        have HBE := Lib.hid (hsim.bytes hrs)
        have hsl : s.sent.length = r.l.length := by rw [hsim.sent, List.length_map]
        obtain ⟨v0, v1, v2, e0, e1, e2, hag⟩ := stateAgg OA.here
        have HNA : Hid Fa.Nodup := Lib.hid OA.here.nd
        have HOA := Lib.hid OA
        have HOB := Lib.hid OB
        have HBY : Hid (∀ W, Chg (fun _ => False) wr W → Calls Try.prog 26 #[.pointer (some ⟨b2, 0, none⟩)] W fun e w' => e = .returned (.string ⟨(encS s).toArray⟩) ∧ Chg (fun _ => False) W w') := Lib.hid fun W hW => by
          have := bytesR_any W b2 0 r Fb (HOB.out.still hW).here HBO.out
          rw [HBE.out] at this
          exact this
        clear HT hreach hsim hrs OA OB
        go_wp2_with fail
        refine (encode_yes _ _ _ _ s Fa hag HNA.out HEN2.out HALL2.out).mono ?_
        rintro e w8 ⟨rfl, hc8⟩
        have HC8 := Lib.hid hc8
        have HSL := Lib.hid hsl
        clear hag e0 e1 e2 hc8 hsl
        generalize (⟨(encS s).toArray⟩ : ByteArray) = bt at *
        go_wp2_with fail
        refine (HBY.out _ HC8.out).mono ?_
        rintro e w9 ⟨rfl, hc9⟩
        have OA9 := HOA.out.still (HC8.out.trans' hc9)
        have OB9 := HOB.out.still (HC8.out.trans' hc9)
        have hwc := OA9.chg
        obtain ⟨z0, z1, z2, g0, g1, g2, k0, k1, k2, -, -, j0, -⟩ := stateCells OA9.here
        obtain ⟨vo, vl, -, c4, c5, Fo, Fl, -, hl, -⟩ := rworldCells OB9.here
        obtain ⟨xl, Gl, hopl⟩ := Rep.opened hl
        obtain ⟨pl, cl, rfl, -, -⟩ := hopl.val
        obtain ⟨p2, q2, rfl, -, -, -⟩ := seen_strs j0
        rw [List.length_map, HSL.out] at g2
        clear j0 hl hopl OA9 OB9 HOA HOB HC8 hc9 HBY
        go_wp2_with fail
        go_ret
        exact ⟨rfl, hwc.below (Nat.le_refl _) (fun _ h => h.elim)⟩
set_option maxHeartbeats 800000 in
set_option maxRecDepth 100000 in
theorem ticketPlays_long (w : World) (v : Value) (ops : List COp) (h : ArgRows w v 6 (ops.map COp.cells)) (ho : ∀ o ∈ ops, COpOk o) (hf : fewB ops 100 = false) :
    Calls Try.prog 6 #[v] w fun e w' => e = .returned (.bool true) ∧ Below w.heap.size w w' := by
  have HF := Lib.hid hf
  have HA := Lib.hid h
  have HO := Lib.hid ho
  obtain ⟨a, cap, rfl, -⟩ := h
  clear hf ho
  rw [List.length_map] at HA
  go_enter Try.func6, Try.ntmps6
  go_wp2_with fail
  refine (awake_any w).mono ?_
  rintro e w1 ⟨rfl, hc1⟩
  go_wp2_with fail
  refine (few_any w1 ops _ 100 (by decide) (HA.out.keep hc1) HO.out).mono ?_
  rintro e w2 ⟨rfl, rfl⟩
  rw [HF.out]
  go_wp2_with fail
  refine (awake_any w1).mono ?_
  rintro e w2 ⟨rfl, hc2⟩
  go_wp2_with fail
  go_ret
  exact ⟨rfl, (hc1.trans' hc2).below (Nat.le_refl _) (fun _ h => h.elim)⟩
theorem ticketPlays_walk (w : World) (v : Value) (ops : List COp) (h : ArgRows w v 6 (ops.map COp.cells)) (ho : ∀ o ∈ ops, COpOk o) :
    Calls Try.prog 6 #[v] w fun e w' => e = .returned (.bool true) ∧ Below w.heap.size w w' := by
  cases hf : fewB ops 100 with
  | true => exact ticketPlays_ok w v ops h ho hf
  | false => exact ticketPlays_long w v ops h ho hf
set_option maxRecDepth 100000 in
theorem ticketPlays_lifted (os : Os) (started : os.Started) (H : Type) (enc : TypeId × Value → H) :
    ReturnsInHanded {} Try.checked os 6 .any (Rows.ticketPlaysSpec.pre6 enc Try.prog Try.f6 [] false) (Rows.ticketPlaysSpec.post enc Try.prog Try.f6 false true false false) := by
  refine law_lift (C := Try.checked) (tb := 4) started Try.own Try.laidOut (by kernel_rfl) Try.func6 (by kernel_rfl) rfl Try.underlying4 rfl ?_
    (ChangeSpec.witness6 (enc := enc) (C := Try.checked) false ⟨#[], #[.slice none 0 0], []⟩ 8 (by kernel_rfl) (by kernel_rfl) (by kernel_rfl) (by kernel_rfl)) ?_
  · intro ds h
    match ds, h with
    | [_], _ => rfl
  · intro W base vs ds ps hval hA hsz
    have hp : Try.f6.params.toList = [42] := by rw [Try.params6]
    rw [hp] at hval hA hsz
    obtain ⟨v0, vs0, d0, ds0, p0, q0, rfl, rfl, rfl, h0, r0⟩ := trodAll_cons hA
    obtain ⟨rfl, rfl, rfl⟩ := trodAll_nil r0
    obtain ⟨a0, rfl, w0⟩ := open_ops (hval 0 42 v0 rfl rfl) h0
    exact ticketPlays_walk W a0.1 a0.2 w0.1 w0.2

theorem ticketPlays_holds : Rows.TicketPlaysSaid :=
  OpenClaim.holds_of_wide 6 Try.f6 rfl rfl rfl rfl rfl rfl rfl ⟨rfl, rfl, rfl, rfl, rfl⟩ rfl rfl rfl rfl rfl (by kernel_rfl) Try.func6 (by kernel_rfl)
    (of_decide_eq_true (by kernel_rfl)) (by unfold Func.isWrapper; first | (rw [if_pos (by decide +kernel)]; kernel_rfl) | (rw [if_neg (by decide +kernel)]; exact ⟨rfl, rfl⟩))
    (fun os started H enc _ => ticketPlays_lifted os started H enc)
#print axioms ticketPlays_holds
end Go.Proofs.Ytaacafdlklnegaa
