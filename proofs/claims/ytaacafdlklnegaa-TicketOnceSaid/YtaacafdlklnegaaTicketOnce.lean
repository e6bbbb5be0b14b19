/-
  TicketOnce: whatever is called, a request under a ticket is sent once; for all calls.
-/
import Derived.Test.YtaacafdlklnegaaTikq
import Derived.Deep.CutBlock
namespace Go.Proofs.Ytaacafdlklnegaa
set_option linter.unusedVariables false
open Go.ChangeShapes Go.WideShapes Go.ChangeAt Go.RowKit
open Go.ChangeMaps (open_string shut_string)

set_option maxHeartbeats 6400000 in
set_option maxRecDepth 100000 in
theorem ticketOnce_ok (w : World) (v : Value) (ops : List COp) (h : ArgRows w v 6 (ops.map COp.cells)) (ho : ∀ o ∈ ops, COpOk o) (hf : fewB ops 100 = true) :
    Calls Try.prog 5 #[v] w fun e w' => e = .returned (.bool true) ∧ Below w.heap.size w w' := by
  have hl : ops.length ≤ 100 := by unfold fewB at hf; simp only [Bool.and_eq_true, decide_eq_true_eq] at hf; exact hf.1
  have HF := Lib.hid hf
  have HA := Lib.hid h
  have HO := Lib.hid ho
  have HL := Lib.hid hl
  have hln : (ops.length : Int) ≤ 9223372036854775807 := by omega
  obtain ⟨a, cap, rfl, -⟩ := h
  clear hf ho hl
  rw [List.length_map] at HA
  go_enter Try.func5, Try.ntmps5
  go_wp2_with fail
  refine (awake_any w).mono ?_
  rintro e w1 ⟨rfl, hc1⟩
  go_wp2_with fail
  refine (few_any w1 ops _ 100 (by decide) (HA.out.keep hc1) HO.out).mono ?_
  rintro e w2 ⟨rfl, rfl⟩
  rw [HF.out]
  have HI0 := OInv.start hc1
  go_wp2_with fail
  generalize (w1.alloc (.cells #[.slice none 0 0, .slice none 0 0, .slice none 0 0] 27)).alloc (.cells Try.zeroCells45 45) = w3 at *
  generalize w1.heap.size = b at *
  go_loopw [5, 6] (fun u5 u6 wr => ∃ (i : Nat) (s : State) (bs : List Bool) (F : List Nat), i ≤ ops.length ∧ u5 = .int .i64 (s.entries.length : Int) ∧ u6 = .int .i64 i ∧ OInv w wr b i s bs F) (fun _ u6 _ => ops.length - (intOf u6).toNat)
  case atStart => exact ⟨0, newState, _, [], Nat.zero_le _, rfl, rfl, HI0⟩
  case round =>
    obtain ⟨i, s, bs, F, hi, rfl, rfl, HI⟩ := hrel
    clear HI0
    by_cases hlt : i < ops.length
    · obtain ⟨g, off, rfl, c0, c1, c2, c3, c4, c5⟩ := argOp HA.out HI.st.chg hlt
      have HX : Hid (COpOk ops[i]) := Lib.hid (HO.out _ (List.getElem_mem hlt))
      have h0 : (0 : Int) ≤ (i : Int) := Int.natCast_nonneg _
      have h1 : (i : Int) < (ops.length : Int) := by omega
      have hi100 : i ≤ 100 := by have := HL.out; omega
      have HI100 := Lib.hid hi100
      have HLT := Lib.hid hlt
      have wi : IntKind.i64.wrap ((i : Int) + 1) = (i : Int) + 1 := IntWalk.i64_in _ (by omega)
      generalize ops[i] = x at *
      clear hi100 hlt
      have hhere := HI.st.here.alloc (.cells #[.int .u8 x.kind, .int .u8 x.page, .int .i8 x.epoch, .int .i8 x.number, .int .i8 x.at_, .string x.text] 48)
      go_wp2_with fail
      refine (do_any _ b 0 s F x i (by have := HI100.out; omega) HX.out HI.small hhere).mono ?_
      rintro e w5 ⟨vl, vn, F', rfl, hh, hs, rl, rn, hown⟩
      obtain ⟨pl, cl, rfl, -, -⟩ := rl.slice
      obtain ⟨pn, cn, rfl, -, -⟩ := rn.slice
      have hkey := doM_keys s x
      have hform := HI.formed.do_ x
      have hsmall := HI.small.do_ x
      generalize (doM s x).1 = T at *
      generalize (doM s x).2 = s' at *
      obtain ⟨te, tl, td, tn⟩ := T
      dsimp only at hkey ⊢
      clear hown rl rn
      have hcA := Chg.alloc (fun _ => False) wr (.cells #[.int .u8 x.kind, .int .u8 x.page, .int .i8 x.epoch, .int .i8 x.number, .int .i8 x.at_, .string x.text] 48)
      obtain ⟨hst', harr', hfree'⟩ := HI.call hcA hh hs
      have hbox := hs.chg.keep (alloc_block wr _) (by
        have := HI.st.here.lt
        rintro (y | y)
        · omega
        · have := this.2 _ y; omega)
      have d0 : w5.cell? ⟨wr.heap.size, 0, none⟩ = some (.int .u8 x.kind) := cell_of_block (i := 0) hbox rfl
      have d1 : w5.cell? ⟨wr.heap.size, 1, none⟩ = some (.int .u8 x.page) := cell_of_block (i := 1) hbox rfl
      have d3 : w5.cell? ⟨wr.heap.size, 3, none⟩ = some (.int .i8 x.number) := cell_of_block (i := 3) hbox rfl
      have d5 : w5.cell? ⟨wr.heap.size, 5, none⟩ = some (.string x.text) := cell_of_block (i := 5) hbox rfl
      obtain ⟨_, v1, v2, _, q1, q2, _, _, _, -, r1, r2, -⟩ := stateCells hh
      have hsent := seen_strs r2
      obtain ⟨_, _, ho1⟩ := Rep.opened r1
      obtain ⟨pe, ce, rfl, -, -⟩ := ho1.val
      have HSENT := Lib.hid hsent
      obtain ⟨ps, cs, rfl, -, -⟩ := hsent
      rw [List.length_map] at q2
      have hsl : s'.sent.length = s'.entries.length := by rw [hform.sent, List.length_map]
      rw [hsl] at q2
      have hkl : ∀ s : State, (keys s).length = s.entries.length := fun s => by unfold keys; rw [List.length_map]
      have hkk : ∃ k : Nat, k < 8 ∧ x.kind % 8 = (k : Int) := ⟨(x.kind % 8).toNat, by omega, by omega⟩
      obtain ⟨k, hk8, hke⟩ := hkk
      have hm : x.kind.tmod 8 = (k : Int) := by rw [Int.tmod_eq_emod_of_nonneg HX.out.kind.1]; exact hke
      have hkn : (x.kind % 8).toNat = k := by omega
      rw [hkn] at hkey
      clear hke hkn hk8 r1 r2 ho1 hbox
      have hqq : ∃ q : Nat, q < 4 ∧ x.page % 4 = (q : Int) := ⟨(x.page % 4).toNat, by omega, by omega⟩
      obtain ⟨q, hq4, hqe⟩ := hqq
      have hmq : x.page.tmod 4 = (q : Int) := by rw [Int.tmod_eq_emod_of_nonneg HX.out.page.1]; exact hqe
      have huu : ∃ u : Nat, u < 256 ∧ x.number % 256 = (u : Int) := ⟨(x.number % 256).toNat, by omega, by omega⟩
      obtain ⟨u, hu256, hue⟩ := huu
      have hwu : IntKind.u8.wrap x.number = (u : Int) := hue
      have hix : opIx x = q * 256 + u := by unfold opIx; omega
      have HIX := Lib.hid hix
      clear hue hqe
      have b1 : (0 : Int) ≤ (q : Int) := Int.natCast_nonneg _
      have b2 : (q : Int) < 4 := by omega
      have b3 : (0 : Int) ≤ (u : Int) := Int.natCast_nonneg _
      have b4 : (u : Int) < 256 := by omega
      have hcB := Chg.alloc (fun _ => False) w5 (.cells #[.int .i64 te, .slice pl tl.length cl, .bool td, .slice pn tn.length cn] 50)
      replace d0 := hcB.cell d0
      replace d1 := hcB.cell d1
      replace d3 := hcB.cell d3
      replace d5 := hcB.cell d5
      replace q1 := hcB.cell q1
      replace q2 := hcB.cell q2
      rcases hkey with ⟨⟨hk, hse⟩, himp⟩ | ⟨hk1, hte, hni, hk, hse⟩
      · have hlen : s'.entries.length = s.entries.length := by rw [← hkl s', ← hkl s, hk]
        rw [hlen] at q1 q2
        have HI' := HI.idle hcA hh hs hk hsmall hform
        have HLEN := Lib.hid hlen
        have HK := Lib.hid hk
        have HIMP := Lib.hid himp
        clear hlen himp hkl hk hse hsl hh hs hst' hform hsmall hhere c0 c1 c2 c3 c4 c5
        by_cases hk1 : k = 1
        · subst hk1
          by_cases hte : te = 0
          · have hin := HIMP.out rfl hte
            subst hte
            obtain ⟨β, a1, a2⟩ := (HI'.still hcB).cell HX.out
            have hk' : keys s' = keys s := HK.out
            rw [hk'] at a2
            obtain rfl := a2.2 hin
            rw [hix] at a1
            clear hk' hin a2 hix
            go_wp2_with fail
            go_quiet (fail)
            go_wp2_with fail
            go_roundw
            case rel => exact ⟨i + 1, s', bs, F', HLT.out, by rw [HLEN.out], by go_num, HI'.still (hcB.drewNR _)⟩
            case measure => have := HLT.out; simp [intOf]; omega
          · have hb2 : (te == 0) = false := by simpa using hte
            clear hte
            go_wp2_with fail
            go_roundw
            case rel => exact ⟨i + 1, s', bs, F', HLT.out, by rw [HLEN.out], by go_num, HI'.still hcB⟩
            case measure => have := HLT.out; simp [intOf]; omega
        · have hb1 : ((k : Int) == 1) = false := by simp; omega
          clear hk1
          go_wp2_with fail
          go_roundw
          case rel => exact ⟨i + 1, s', bs, F', HLT.out, by rw [HLEN.out], by go_num, HI'.still hcB⟩
          case measure => have := HLT.out; simp [intOf]; omega
      · subst hk1
        subst hte
        obtain ⟨β, a1, a2⟩ := (HI.still hcA).cell HX.out
        have hβ : β = false := by
          cases β with
          | false => rfl
          | true => exact absurd (a2.1 rfl) hni
        subst hβ
        have hlen : s'.entries.length = s.entries.length + 1 := by rw [← hkl s', ← hkl s, hk]; simp
        rw [hlen] at q1 q2
        have a3 : w5.cell? ⟨b + 1, q * 256 + u, none⟩ = some (.bool false) := by
          rw [← hix]
          refine cell_of_block harr' ?_
          obtain ⟨β', t1, t2⟩ := HI.tab x HX.out
          cases β' with
          | false => simp [t1]
          | true => exact absurd (t2.1 rfl) hni
        replace a3 := hcB.cell a3
        have fz : ∀ i, (w5.alloc (.cells #[.int .i64 0, .slice pl tl.length cl, .bool td, .slice pn tn.length cn] 50)).frozen? ⟨b + 1, i, none⟩ = false := fun i => frozen_of_block (alloc_old _ harr')
        have hs3 : s.sent.length = s.entries.length := by rw [HI.formed.sent, List.length_map]
        obtain ⟨g9, off9, rfl, t9⟩ := HSENT.out.ptr hcB (k := s.entries.length) (u := .string x.text) (by rw [hse, ← hs3]; simp)
        have hne : ¬ g9 = b + 1 := by
          rintro rfl
          have h9 := (alloc_old (.cells #[.int .i64 0, .slice pl tl.length cl, .bool td, .slice pn tn.length cn] 50) harr')
          have : ∀ j v, (w5.alloc (.cells #[.int .i64 0, .slice pl tl.length cl, .bool td, .slice pn tn.length cn] 50)).cell? ⟨b + 1, j, none⟩ = some v → ∃ y, v = .bool y := by
            intro j v hv
            simp only [World.cell?, h9, List.getElem?_toArray, List.getElem?_map] at hv
            obtain ⟨y, _, rfl⟩ := Option.map_eq_some_iff.1 hv
            exact ⟨y, rfl⟩
          obtain ⟨y, hy⟩ := this _ _ t9
          cases hy
        have hne2 : ¬ b + 1 = g9 := fun e => hne e.symm
        have hne3 : ¬ b + 1 = wr.heap.size := by have := lt_of_block HI.arr; omega
        have hne4 : ¬ wr.heap.size = b + 1 := fun e => hne3 e.symm
        have HPU := Lib.hid (fun W hc2 => HI.push (w2 := W) hcA hh hs HX.out hk hsmall hform hc2)
        have HLEN := Lib.hid hlen
        have wN : IntKind.i64.wrap ((s.entries.length : Int) + 1) = (s.entries.length : Int) + 1 := IntWalk.i64_in _ (by have := HI.small.entries; have := HI100.out; omega)
        clear hlen hk hse hsl hh hs hst' hform hsmall hhere c0 c1 c2 c3 c4 c5 hkl a1 a2 hni hs3 hix
        go_wp2_with fail
        go_quiet (fail)
        go_wp2_with fail
        have hcC := hcB.drewNR (nq + 1)
        go_region_held3 (fun w' => w'.cell? ⟨wr.heap.size, 3, none⟩ = some (.int .i8 x.number)) (go_keep) (fail)
        go_wp2_with fail
        have HN9 : Hid (s.entries.length ≤ 100) := Lib.hid (by have := HI.small.entries; have := HI100.out; omega)
        generalize s.entries.length = n at *
        have n0 : (0 : Int) ≤ (n : Int) := Int.natCast_nonneg _
        have n1 : (n : Int) < (n : Int) + 1 := by omega
        have wS : IntKind.i64.wrap (n : Int) = (n : Int) := IntWalk.i64_in _ (by have := HN9.out; omega)
        go_quiet (fail)
        clear wS n0 n1
        go_wp2_with fail
        go_roundw
        case rel =>
          have hpu := HPU.out _ hcC
          rw [HIX.out] at hpu
          exact ⟨i + 1, s', _, F', HLT.out, by rw [HLEN.out]; rfl, by go_num, hpu.still ((Chg.refl _ _).drewNR _)⟩
        case measure => have := HLT.out; simp [intOf]; omega
    · obtain rfl : i = ops.length := by omega
      go_wp2_with fail
      go_ret
      exact ⟨rfl, HI.st.chg.below (Nat.le_refl _) (fun _ h => h.elim)⟩
set_option maxHeartbeats 800000 in
set_option maxRecDepth 100000 in
theorem ticketOnce_long (w : World) (v : Value) (ops : List COp) (h : ArgRows w v 6 (ops.map COp.cells)) (ho : ∀ o ∈ ops, COpOk o) (hf : fewB ops 100 = false) :
    Calls Try.prog 5 #[v] w fun e w' => e = .returned (.bool true) ∧ Below w.heap.size w w' := by
  have HF := Lib.hid hf
  have HA := Lib.hid h
  have HO := Lib.hid ho
  obtain ⟨a, cap, rfl, -⟩ := h
  clear hf ho
  rw [List.length_map] at HA
  go_enter Try.func5, Try.ntmps5
  go_wp2_with fail
  refine (awake_any w).mono ?_
  rintro e w1 ⟨rfl, hc1⟩
  go_wp2_with fail
  refine (few_any w1 ops _ 100 (by decide) (HA.out.keep hc1) HO.out).mono ?_
  rintro e w2 ⟨rfl, rfl⟩
  rw [HF.out]
  go_wp2_with fail
  refine (awake_any w1).mono ?_
  rintro e w2 ⟨rfl, hc2⟩
  go_wp2_with fail
  go_ret
  exact ⟨rfl, (hc1.trans' hc2).below (Nat.le_refl _) (fun _ h => h.elim)⟩
theorem ticketOnce_walk (w : World) (v : Value) (ops : List COp) (h : ArgRows w v 6 (ops.map COp.cells)) (ho : ∀ o ∈ ops, COpOk o) :
    Calls Try.prog 5 #[v] w fun e w' => e = .returned (.bool true) ∧ Below w.heap.size w w' := by
  cases hf : fewB ops 100 with
  | true => exact ticketOnce_ok w v ops h ho hf
  | false => exact ticketOnce_long w v ops h ho hf
set_option maxRecDepth 100000 in
theorem ticketOnce_lifted (os : Os) (started : os.Started) (H : Type) (enc : TypeId × Value → H) :
    ReturnsInHanded {} Try.checked os 5 .any (Rows.ticketOnceSpec.pre6 enc Try.prog Try.f5 [] false) (Rows.ticketOnceSpec.post enc Try.prog Try.f5 false true false false) := by
  refine law_lift (C := Try.checked) (tb := 4) started Try.own Try.laidOut (by kernel_rfl) Try.func5 (by kernel_rfl) rfl Try.underlying4 rfl ?_
    (ChangeSpec.witness6 (enc := enc) (C := Try.checked) false ⟨#[], #[.slice none 0 0], []⟩ 8 (by kernel_rfl) (by kernel_rfl) (by kernel_rfl) (by kernel_rfl)) ?_
  · intro ds h
    match ds, h with
    | [_], _ => rfl
  · intro W base vs ds ps hval hA hsz
    have hp : Try.f5.params.toList = [42] := by rw [Try.params5]
    rw [hp] at hval hA hsz
    obtain ⟨v0, vs0, d0, ds0, p0, q0, rfl, rfl, rfl, h0, r0⟩ := trodAll_cons hA
    obtain ⟨rfl, rfl, rfl⟩ := trodAll_nil r0
    obtain ⟨a0, rfl, w0⟩ := open_ops (hval 0 42 v0 rfl rfl) h0
    exact ticketOnce_walk W a0.1 a0.2 w0.1 w0.2

theorem ticketOnce_holds : Rows.TicketOnceSaid :=
  OpenClaim.holds_of_wide 5 Try.f5 rfl rfl rfl rfl rfl rfl rfl ⟨rfl, rfl, rfl, rfl, rfl⟩ rfl rfl rfl rfl rfl (by kernel_rfl) Try.func5 (by kernel_rfl)
    (of_decide_eq_true (by kernel_rfl)) (by unfold Func.isWrapper; first | (rw [if_pos (by decide +kernel)]; kernel_rfl) | (rw [if_neg (by decide +kernel)]; exact ⟨rfl, rfl⟩))
    (fun os started H enc _ => ticketOnce_lifted os started H enc)
#print axioms ticketOnce_holds
end Go.Proofs.Ytaacafdlklnegaa
