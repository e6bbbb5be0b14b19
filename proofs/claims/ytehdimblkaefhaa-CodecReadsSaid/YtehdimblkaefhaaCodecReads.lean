/-
  CodecReads: any values are read from any bytes as specified, with the errors, also from any offset and after an error, for every input.
-/
import Derived.Test.YtehdimblkaefhaaOpen
import Derived.Test.YtehdimblkaefhaaNext
import Derived.Laws.StructEq
import Derived.Lib.SmallJoins
namespace Go.Proofs.Ytehdimblkaefhaa
open Go.ChangeShapes Go.WideShapes Go.ChangeAt Go.RowKit
open Go.ChangeMaps (open_string shut_string)
set_option linter.unusedVariables false

theorem neq_value (R : RVal) (W : World) : (binOp .neq 49 (.agg R.cells) (.agg R.cells)).run Try.prog W = .ok (.bool false) W := by
  have hf : Try.prog.underlying 49 = some (.struct (Try.prog.fieldsOf 49)) := by simp only [Program.fieldsOf, Try.underlying49]
  rw [run_neq_struct, run_equalIn_agg W 9999 _ _ _ hf (by kernel_rfl)]
  simp [Program.fieldsOf, Try.underlying49, RVal.cells, go_sem]

set_option maxHeartbeats 3200000 in
set_option maxRecDepth 100000 in
theorem codecReads_walk (s : ByteArray) (p0 e0 most : Int) (a : Option Addr) (cap : Nat) (zs : List Nat) (w : World) (hrow : ArgRow w (.slice a zs.length cap) (zs.map fun z : Nat => Value.int .u8 z)) (hs : s.size ≤ 140737488351232)
    (hz : ∀ z ∈ zs, z < 256) (hzl : zs.length ≤ 9223372036854775807) (hp0 : -9223372036854775808 ≤ p0 ∧ p0 < 9223372036854775808) (hm : -9223372036854775808 ≤ most ∧ most < 9223372036854775808) :
    Calls Try.prog 8 #[.agg #[.string s, .int .i64 p0, .int .i64 e0], .slice a zs.length cap, .int .i64 most] w fun e w' => e = .returned (.bool true) ∧ Below w.heap.size w w' := by
  go_enter Try.func8, Try.ntmps8
  go_wp2_with fail
  have hA := alloc_block w (.cells #[.string s, .int .i64 p0, .int .i64 e0] 32)
  have hch0 := Chg.alloc (fun _ => False) w (.cells #[.string s, .int .i64 p0, .int .i64 e0] 32)
  generalize w.alloc (.cells #[.string s, .int .i64 p0, .int .i64 e0] 32) = w0 at *
  refine (fit_any _).mono ?_
  rintro e w1 ⟨rfl, hc1⟩
  have hA1 := hc1.keep hA (fun x => x)
  have hch1 := hch0.trans' hc1
  clear hA hch0 hc1
  by_cases h50 : 50 < zs.length
  · go_wp2_with fail
    all_goals first | omega | skip
    go_ret
    exact ⟨rfl, hch1.below (Nat.le_refl _) (fun _ h => h.elim)⟩
  have a0 : w1.cell? ⟨w.heap.size, 0, none⟩ = some (.string s) := cell_of_block (i := 0) hA1 rfl
  have a1 : w1.cell? ⟨w.heap.size, 1, none⟩ = some (.int .i64 p0) := cell_of_block (i := 1) hA1 rfl
  have a2 : w1.cell? ⟨w.heap.size, 2, none⟩ = some (.int .i64 e0) := cell_of_block (i := 2) hA1 rfl
  have hb50 : decide ((50 : Int) < (zs.length : Int)) = false := by simp; omega
  have hlt1 := lt_of_block hA1
  go_wp2_with fail
  all_goals first | omega | skip
  have hO := OwnR.new w1 s p0 e0
  have b0 := hO.chg.cell a0
  have b1 := hO.chg.cell a1
  have b2 := hO.chg.cell a2
  generalize w1.alloc (.cells #[.string s, .int .i64 p0, .int .i64 e0] 32) = w2 at *
  go_quiet (fail)
  have hO := hO.keep (Chg.drewN (fun _ => False) w2 nq)
  clear b0 b1 b2 a1 a2
  generalize w2.drewN nq = w3 at *
  go_wp2_with fail
  go_loopw [8, 9, 11, 12, 13, 27] (fun at_ er _ _ _ i wr => ∃ (k : Nat) (P E : Int), k ≤ zs.length ∧ i = .int .i64 k ∧ at_ = .int .i64 P ∧ er = .int .i64 E ∧ (-9223372036854775808 ≤ P ∧ P < 9223372036854775808) ∧ OwnR w1 wr w1.heap.size s P E) (fun _ _ _ _ _ i _ => zs.length - (intOf i).toNat)
  case atStart => exact ⟨0, p0, e0, Nat.zero_le _, rfl, rfl, rfl, hp0, hO⟩
  case round =>
    clear hO
    obtain ⟨k, P, E, hk, rfl, rfl, rfl, hP, hO⟩ := hrel
    have c0 := hO.chg.cell a0
    by_cases hlt : k < zs.length
    · obtain ⟨g, off, rfl, hcell⟩ := argCell hrow (hch1.trans' hO.chg) (k := k) (u := .int .u8 zs[k]) (by simp [hlt])
      have hzk := hz zs[k] (List.getElem_mem _)
      generalize zs[k] = z at *
      go_wp2_with fail
      rw [show ((z : Int) % 5) = ((z % 5 : Nat) : Int) from by omega]
      have hk5 : z % 5 < 5 := by omega
      generalize z % 5 = kind at *
      refine (next_any s P E kind most _ hk5 (by omega) hP hm).mono ?_
      rintro x w4 ⟨rfl, hc4⟩
      have hO4 := hO.keep hc4
      have d0 := hc4.cell c0
      clear hcell hO c0 hc4
      have hread := fun W (h : RdAt W w1.heap.size 32 s P E) => read_any W w1.heap.size s P E kind most hk5 hm.1 hm.2 h (by omega)
      have hrg := read_range s P E kind most hk5 (by omega) hP
      have hneq := neq_value (readR s P E kind most)
      generalize readR s P E kind most = R at *
      have HRD := Lib.hid hread
      clear hread
      rw [show R.cells = #[.int .u64 R.u, .int .i64 R.n, .bool R.b, .string R.s, .int .i64 R.p, .int .i64 R.e] from rfl] at *
      have gV := alloc_block w4 (.cells #[.int .u64 R.u, .int .i64 R.n, .bool R.b, .string R.s, .int .i64 R.p, .int .i64 R.e] 49)
      have hO5 := hO4.keep (Chg.alloc (fun _ => False) w4 (.cells #[.int .u64 R.u, .int .i64 R.n, .bool R.b, .string R.s, .int .i64 R.p, .int .i64 R.e] 49))
      have f0 := (Chg.alloc (fun _ => False) w4 (.cells #[.int .u64 R.u, .int .i64 R.n, .bool R.b, .string R.s, .int .i64 R.p, .int .i64 R.e] 49)).cell d0
      have hlt4 := lt_of_block hO4.rd
      go_upto_region 12 with fail
      generalize w4.alloc (.cells #[.int .u64 R.u, .int .i64 R.n, .bool R.b, .string R.s, .int .i64 R.p, .int .i64 R.e] 49) = w5 at *
      have v0 : w5.cell? ⟨w4.heap.size, 0, none⟩ = some (.int .u64 R.u) := cell_of_block (i := 0) gV rfl
      have v1 : w5.cell? ⟨w4.heap.size, 1, none⟩ = some (.int .i64 R.n) := cell_of_block (i := 1) gV rfl
      have v2 : w5.cell? ⟨w4.heap.size, 2, none⟩ = some (.bool R.b) := cell_of_block (i := 2) gV rfl
      have v3 : w5.cell? ⟨w4.heap.size, 3, none⟩ = some (.string R.s) := cell_of_block (i := 3) gV rfl
      have v4 : w5.cell? ⟨w4.heap.size, 4, none⟩ = some (.int .i64 R.p) := cell_of_block (i := 4) gV rfl
      have v5 : w5.cell? ⟨w4.heap.size, 5, none⟩ = some (.int .i64 R.e) := cell_of_block (i := 5) gV rfl
      have r0 : w5.cell? ⟨w1.heap.size, 0, none⟩ = some (.string s) := cell_of_block (i := 0) hO5.rd rfl
      have hne1 : w4.heap.size ≠ w1.heap.size := by omega
      have hne2 : w.heap.size ≠ w1.heap.size := by omega
      have HN1 := Lib.hid hne1
      have HN2 := Lib.hid hne2
      clear hne1 hne2 hlt4
      go_cut [52] (fun s52 wx => s52 = .bool false ∧ OwnR w1 wx w1.heap.size s R.p R.e ∧ wx.heap[w4.heap.size]? = some (.cells #[.int .u64 R.u, .int .i64 R.n, .bool R.b, .string R.s, .int .i64 R.p, .int .i64 R.e] 49))
      case first =>
        have hrd : RdAt w5.drew w1.heap.size 32 s P E := hO5.rd
        go_region_held3 (fun w' => (w'.cell? ⟨w4.heap.size, 0, none⟩ = some (.int .u64 R.u) ∧ w'.cell? ⟨w4.heap.size, 1, none⟩ = some (.int .i64 R.n) ∧ w'.cell? ⟨w4.heap.size, 2, none⟩ = some (.bool R.b) ∧ w'.cell? ⟨w4.heap.size, 3, none⟩ = some (.string R.s) ∧ w'.cell? ⟨w4.heap.size, 4, none⟩ = some (.int .i64 R.p) ∧ w'.cell? ⟨w4.heap.size, 5, none⟩ = some (.int .i64 R.e)) ∧ w'.cell? ⟨w1.heap.size, 0, none⟩ = some (.string s) ∧ w'.cell? ⟨w.heap.size, 0, none⟩ = some (.string s))
          (first | go_keep | (go_split_ands; exact ⟨⟨hch.cellNe (by assumption) HN1.out, hch.cellNe (by assumption) HN1.out, hch.cellNe (by assumption) HN1.out, hch.cellNe (by assumption) HN1.out, hch.cellNe (by assumption) HN1.out, hch.cellNe (by assumption) HN1.out⟩, cell_of_block (i := 0) hr6 rfl, hch.cellNe (by assumption) HN2.out⟩))
          ((go_at_call 23; refine (HRD.out _ hrd).mono ?_; rintro x w6 ⟨rfl, hr6, hch⟩))
        go_wp2_with fail
        go_meet
        exact ⟨rfl, hO5.step hr6 hch.ofDrew, hch.ofDrew.keep gV HN1.out⟩
      case rest =>
        clear gV hO5 f0 v0 v1 v2 v3 v4 v5 r0 hneq HRD
        obtain ⟨rfl, hO6, gV⟩ := hcut
        generalize wc = w6 at *
        have v4 : w6.cell? ⟨w4.heap.size, 4, none⟩ = some (.int .i64 R.p) := cell_of_block (i := 4) gV rfl
        have v5 : w6.cell? ⟨w4.heap.size, 5, none⟩ = some (.int .i64 R.e) := cell_of_block (i := 5) gV rfl
        clear gV
        go_wp2_with fail
        go_quiet (fail)
        clear v4 v5
        go_wp2_with fail
        go_roundw
        case rel => exact ⟨k + 1, R.p, R.e, by omega, by go_num, rfl, rfl, hrg, hO6.keep (Chg.drewN _ _ _)⟩
        case measure => simp [intOf]; omega
    · have hdn := fun W (h : RdAt W w1.heap.size 32 s P E) => rDone_any W w1.heap.size s P E h (by omega)
      by_cases hE : E = 0
      · subst hE
        by_cases hPs : P = (s.size : Int)
        · subst hPs
          rw [if_neg (by simp), if_neg (by simp)] at hdn
          have HD := Lib.hid hdn
          clear hdn
          have hx : (((s.size : Nat) : Int) != (s.size : Int)) = false := by simp
          go_wp2_with fail
          refine (HD.out _ hO.rd).mono ?_
          rintro x w5 ⟨rfl, hc5⟩
          have hO5 := hO.keep hc5
          have r1 : w5.cell? ⟨w1.heap.size, 1, none⟩ = some (.int .i64 (s.size : Int)) := cell_of_block (i := 1) hO5.rd rfl
          have r2 : w5.cell? ⟨w1.heap.size, 2, none⟩ = some (.int .i64 0) := cell_of_block (i := 2) hO5.rd rfl
          go_wp2_with fail
          go_ret
          exact ⟨by simp, (hch1.trans' hO5.chg).below (Nat.le_refl _) (fun _ h => h.elim)⟩
        · rw [if_neg (by simp), if_pos hPs] at hdn
          have HD := Lib.hid hdn
          clear hdn
          have hx : (P != (s.size : Int)) = true := by rw [bne_iff_ne]; exact hPs
          go_wp2_with fail
          refine (HD.out _ hO.rd).mono ?_
          rintro x w5 ⟨rfl, hc5⟩
          have hO5 := hO.keep hc5
          have r1 : w5.cell? ⟨w1.heap.size, 1, none⟩ = some (.int .i64 P) := cell_of_block (i := 1) hO5.rd rfl
          have r2 : w5.cell? ⟨w1.heap.size, 2, none⟩ = some (.int .i64 0) := cell_of_block (i := 2) hO5.rd rfl
          go_wp2_with fail
          go_ret
          exact ⟨by simp, (hch1.trans' hO5.chg).below (Nat.le_refl _) (fun _ h => h.elim)⟩
      · rw [if_pos hE] at hdn
        have HD := Lib.hid hdn
        clear hdn
        have hx : (E == 0) = false := by rw [beq_eq_false_iff_ne]; exact hE
        go_wp2_with fail
        refine (HD.out _ hO.rd).mono ?_
        rintro x w5 ⟨rfl, hc5⟩
        have hO5 := hO.keep hc5
        have r1 : w5.cell? ⟨w1.heap.size, 1, none⟩ = some (.int .i64 P) := cell_of_block (i := 1) hO5.rd rfl
        have r2 : w5.cell? ⟨w1.heap.size, 2, none⟩ = some (.int .i64 E) := cell_of_block (i := 2) hO5.rd rfl
        go_wp2_with fail
        go_ret
        exact ⟨by simp, (hch1.trans' hO5.chg).below (Nat.le_refl _) (fun _ h => h.elim)⟩

set_option maxRecDepth 100000 in
theorem codecReads_lifted (os : Os) (started : os.Started) (H : Type) (enc : TypeId × Value → H) :
    ReturnsInHanded {} Try.checked os 8 .any (Rows.codecReadsSpec.pre6 enc Try.prog Try.f8 [] false) (Rows.codecReadsSpec.post enc Try.prog Try.f8 false true false false) := by
  refine law_lift (C := Try.checked) (tb := 4) started Try.own Try.laidOut (by kernel_rfl) Try.func8 (by kernel_rfl) rfl Try.underlying4 rfl ?_
    (ChangeSpec.witness6 (enc := enc) (C := Try.checked) false ⟨#[], #[.agg #[.string ByteArray.empty, .int .i64 0, .int .i64 0], .slice none 0 0, .int .i64 0], []⟩ 8 (by kernel_rfl) (by kernel_rfl) (by kernel_rfl) (by kernel_rfl)) ?_
  · intro ds h
    match ds, h with
    | [_, _, _], _ => rfl
  · intro W base vs ds ps hval hA hsz
    have hp : Try.f8.params.toList = [32, 23, 3] := by rw [Try.params8]
    rw [hp] at hval hA hsz
    obtain ⟨v0, vs0, d0, ds0, p0, q0, rfl, rfl, rfl, h0, r0⟩ := trodAll_cons hA
    obtain ⟨v1, vs1, d1, ds1, p1, q1, rfl, rfl, rfl, h1, r1⟩ := trodAll_cons r0
    obtain ⟨v2, vs2, d2, ds2, p2, q2, rfl, rfl, rfl, h2, r2⟩ := trodAll_cons r1
    obtain ⟨rfl, rfl, rfl⟩ := trodAll_nil r2
    obtain ⟨a2, rfl, rfl, rfl, w2⟩ := open_int Try.underlying3 (hval 2 3 v2 rfl rfl) h2
    obtain ⟨c0, c1, c2, y0, y1, y2, m0, rfl, rfl, _, t0, t1, t2⟩ := Joins.open_agg3 Try.underlying32 (by kernel_rfl) (by kernel_rfl) (hval 0 32 v0 rfl rfl) h0
    obtain ⟨s, e0, x0, _⟩ := DataW.trod_string Try.underlying9 t0
    obtain ⟨p, e1, x1, wp⟩ := DataW.trod_int (k := .i64) Try.underlying3 t1
    obtain ⟨er, e2, x2, we⟩ := DataW.trod_int (k := .i64) Try.underlying30 t2
    simp only [List.cons.injEq, and_true] at e0 e1 e2
    subst e0 e1 e2
    have l0 : s.size ≤ 140737488351232 := by
      have hu : Try.checked.prog.underlying 32 = _ := Try.underlying32
      have := List.all_eq_true.1 hsz s.size (by simp [DataW.weightsEach, DataW.weights, hu, x0])
      have h2 : s.size ≤ reachBytes := of_decide_eq_true this
      simpa [reachBytes] using h2
    obtain ⟨zs, hrow, hz, _⟩ := open_intRow (k := .u8) Try.underlying23 Try.underlying5 (by kernel_rfl) (hval 1 23 v1 rfl rfl) h1
    have hB : zs.map (Value.int .u8) = (zs.map Int.toNat).map fun z : Nat => Value.int .u8 z := by
      rw [List.map_map]
      apply List.map_congr_left
      intro z hzz
      have : 0 ≤ z ∧ z ≤ 255 := hz z hzz
      simp
      omega
    rw [hB] at hrow
    have hrow' := hrow
    obtain ⟨a, cap, rfl, hl, hm, _⟩ := hrow
    rw [List.length_map] at hrow' hl ⊢
    have hp : -9223372036854775808 ≤ p ∧ p ≤ 9223372036854775807 := int_of_wf wp
    have hmm : -9223372036854775808 ≤ a2 ∧ a2 ≤ 9223372036854775807 := int_of_wf w2
    refine codecReads_walk s p er a2 a cap (zs.map Int.toNat) W hrow' l0 ?_ (by unfold maxLen at hm; omega) (by omega) (by omega)
    intro z hzz
    obtain ⟨y, hy, rfl⟩ := List.mem_map.1 hzz
    have : 0 ≤ y ∧ y ≤ 255 := hz y hy
    omega

theorem codecReads_holds : Rows.CodecReadsSaid :=
  OpenClaim.holds_of_wide 8 Try.f8 rfl rfl rfl rfl rfl rfl rfl ⟨rfl, rfl, rfl, rfl, rfl⟩ rfl rfl rfl rfl rfl (by kernel_rfl) Try.func8 (by kernel_rfl)
    (of_decide_eq_true (by kernel_rfl)) (by unfold Func.isWrapper; first | (rw [if_pos (by decide +kernel)]; kernel_rfl) | (rw [if_neg (by decide +kernel)]; exact ⟨rfl, rfl⟩))
    (fun os started H enc _ => codecReads_lifted os started H enc)
#print axioms codecReads_holds
end Go.Proofs.Ytehdimblkaefhaa
