/-
  MigrateCodes: exactly well-formed messages have bytes, which are decoded as the message; others are ignored; for all messages.
-/
import Derived.Test.YtkoopagjjmdodaaLaw
import Derived.Test.YtkoopagjjmdodaaMigh
import Derived.Test.YtkoopagjjmdodaaMigl
import Derived.Test.YtkoopagjjmdodaaMigm
import Derived.Test.YtkoopagjjmdodaaMign
import Derived.Test.YtkoopagjjmdodaaMigo
import Derived.Test.YtkoopagjjmdodaaMigp
namespace Go.Proofs.Ytkoopagjjmdodaa
set_option linter.unusedVariables false
open Go.ChangeShapes Go.WideShapes Go.ChangeAt Go.RowKit
open Go.ChangeMaps (open_string shut_string)

set_option maxHeartbeats 3200000 in
set_option maxRecDepth 100000 in
theorem migrateCodes_walk (m : Msg) (w : World) (hm : MsgOk m) :
    Calls Try.prog 9 #[.agg m.cells.toArray] w fun e w' => e = .returned (.bool true) ∧ Below w.heap.size w w' := by
  have h1 : (m.page.size : Int) ≤ 9223372036854775807 := by have := hm.page; omega
  have h2 : (m.data.size : Int) ≤ 9223372036854775807 := by have := hm.data; omega
  have HMO := Lib.hid hm
  have hch := Chg.alloc (fun _ => False) w (.cells m.cells.toArray 39)
  have hbx := alloc_block w (.cells m.cells.toArray 39)
  unfold Msg.cells at hch hbx ⊢
  clear hm
  by_cases hb : 300 < m.page.size ∨ 1100 < m.data.size
  · have hd : (decide ((300 : Int) < (m.page.size : Int)) = true) ∨ (decide ((300 : Int) < (m.page.size : Int)) = false ∧ decide ((1100 : Int) < (m.data.size : Int)) = true) := by
      simp; omega
    clear hb
    rcases hd with hd | ⟨hd, hd2⟩
    all_goals (
      go_enter Try.func9, Try.ntmps9
      go_upto_region 1 with fail
      generalize w.alloc (.cells #[.int .i64 m.kind, .int .i64 m.frm, .int .i64 m.dst, .string m.page, .int .i64 m.epoch, .int .i64 m.index, .int .i64 m.count, .string m.data] 39) = w0 at *
      go_wp2_with fail
      refine (awake_any w0).mono ?_
      rintro e w1 ⟨rfl, hc1⟩
      have hb1 := hc1.keep hbx (fun x => x)
      have x3 : w1.cell? ⟨w.heap.size, 3, none⟩ = some (.string m.page) := cell_of_block (i := 3) hb1 rfl
      have x7 : w1.cell? ⟨w.heap.size, 7, none⟩ = some (.string m.data) := cell_of_block (i := 7) hb1 rfl
      go_wp2_with fail
      refine (awake_any w1).mono ?_
      rintro e w2 ⟨rfl, hc2⟩
      go_wp2_with fail
      go_ret
      exact ⟨rfl, ((hch.trans' hc1).trans' hc2).below (Nat.le_refl _) (fun _ h => h.elim)⟩)
  · have hd : decide ((300 : Int) < (m.page.size : Int)) = false := by simp; omega
    have hd2 : decide ((1100 : Int) < (m.data.size : Int)) = false := by simp; omega
    clear hb
    by_cases hf : formedB m = true
    · have HE := Lib.hid (fun W => encode_yes m W HMO.out hf)
      have HD := Lib.hid (fun W => decode_any ⟨(encM m).toArray⟩ W (by
        have h3 := encs_few [m.kind, m.frm, m.dst] (by simp only [List.mem_cons, List.not_mem_nil, or_false, forall_eq_or_imp, forall_eq]; exact ⟨HMO.out.kind, HMO.out.frm, HMO.out.dst⟩) (by simp) 3
        have h4 := encs_few [m.epoch, m.index, m.count] (by simp only [List.mem_cons, List.not_mem_nil, or_false, forall_eq_or_imp, forall_eq]; exact ⟨HMO.out.epoch, HMO.out.index, HMO.out.count⟩) (by simp) 3
        have hz := formed_sizes hf
        have h5 := bytesOf_length m.page (by omega)
        have h6 := bytesOf_length m.data (by omega)
        show (encM m).toArray.size ≤ _
        rw [List.size_toArray, encM]
        simp only [List.length_append]
        simp only [List.take_succ_cons, List.take_zero] at h3 h4
        omega))
      rw [decode_enc m HMO.out hf] at HD
      have HF := Lib.hid (fun W => refFormed_any m W HMO.out.page HMO.out.data)
      rw [hf] at HF
      generalize encM m = E at *
      clear hf
      unfold Msg.cells at HE HD HF
      go_enter Try.func9, Try.ntmps9
      go_upto_region 1 with fail
      generalize w.alloc (.cells #[.int .i64 m.kind, .int .i64 m.frm, .int .i64 m.dst, .string m.page, .int .i64 m.epoch, .int .i64 m.index, .int .i64 m.count, .string m.data] 39) = w0 at *
      go_wp2_with fail
      refine (awake_any w0).mono ?_
      rintro e w1 ⟨rfl, hc1⟩
      have hb1 := hc1.keep hbx (fun x => x)
      have x0 : w1.cell? ⟨w.heap.size, 0, none⟩ = some (.int .i64 m.kind) := cell_of_block (i := 0) hb1 rfl
      have x1 : w1.cell? ⟨w.heap.size, 1, none⟩ = some (.int .i64 m.frm) := cell_of_block (i := 1) hb1 rfl
      have x2 : w1.cell? ⟨w.heap.size, 2, none⟩ = some (.int .i64 m.dst) := cell_of_block (i := 2) hb1 rfl
      have x3 : w1.cell? ⟨w.heap.size, 3, none⟩ = some (.string m.page) := cell_of_block (i := 3) hb1 rfl
      have x4 : w1.cell? ⟨w.heap.size, 4, none⟩ = some (.int .i64 m.epoch) := cell_of_block (i := 4) hb1 rfl
      have x5 : w1.cell? ⟨w.heap.size, 5, none⟩ = some (.int .i64 m.index) := cell_of_block (i := 5) hb1 rfl
      have x6 : w1.cell? ⟨w.heap.size, 6, none⟩ = some (.int .i64 m.count) := cell_of_block (i := 6) hb1 rfl
      have x7 : w1.cell? ⟨w.heap.size, 7, none⟩ = some (.string m.data) := cell_of_block (i := 7) hb1 rfl
      go_wp2_with fail
      refine (HE.out _).mono ?_
      rintro e w2 ⟨rfl, hc2⟩
      have hb2 := hc2.keep hb1 (fun x => x)
      clear x0 x1 x2 x3 x4 x5 x6 x7
      have x0 : w2.cell? ⟨w.heap.size, 0, none⟩ = some (.int .i64 m.kind) := cell_of_block (i := 0) hb2 rfl
      have x1 : w2.cell? ⟨w.heap.size, 1, none⟩ = some (.int .i64 m.frm) := cell_of_block (i := 1) hb2 rfl
      have x2 : w2.cell? ⟨w.heap.size, 2, none⟩ = some (.int .i64 m.dst) := cell_of_block (i := 2) hb2 rfl
      have x3 : w2.cell? ⟨w.heap.size, 3, none⟩ = some (.string m.page) := cell_of_block (i := 3) hb2 rfl
      have x4 : w2.cell? ⟨w.heap.size, 4, none⟩ = some (.int .i64 m.epoch) := cell_of_block (i := 4) hb2 rfl
      have x5 : w2.cell? ⟨w.heap.size, 5, none⟩ = some (.int .i64 m.index) := cell_of_block (i := 5) hb2 rfl
      have x6 : w2.cell? ⟨w.heap.size, 6, none⟩ = some (.int .i64 m.count) := cell_of_block (i := 6) hb2 rfl
      have x7 : w2.cell? ⟨w.heap.size, 7, none⟩ = some (.string m.data) := cell_of_block (i := 7) hb2 rfl
      go_wp2_with fail
      refine (HF.out _).mono ?_
      rintro e w3 ⟨rfl, hc3⟩
      have hb3 := hc3.keep hb2 (fun x => x)
      clear x0 x1 x2 x3 x4 x5 x6 x7
      go_wp2_with fail
      refine (HD.out _).mono ?_
      rintro e w4 ⟨rfl, hc4⟩
      have hb4 := hc4.keep hb3 (fun x => x)
      have hbl := lt_of_block hb4
      have x0 : w4.cell? ⟨w.heap.size, 0, none⟩ = some (.int .i64 m.kind) := cell_of_block (i := 0) hb4 rfl
      have x1 : w4.cell? ⟨w.heap.size, 1, none⟩ = some (.int .i64 m.frm) := cell_of_block (i := 1) hb4 rfl
      have x2 : w4.cell? ⟨w.heap.size, 2, none⟩ = some (.int .i64 m.dst) := cell_of_block (i := 2) hb4 rfl
      have x3 : w4.cell? ⟨w.heap.size, 3, none⟩ = some (.string m.page) := cell_of_block (i := 3) hb4 rfl
      have x4 : w4.cell? ⟨w.heap.size, 4, none⟩ = some (.int .i64 m.epoch) := cell_of_block (i := 4) hb4 rfl
      have x5 : w4.cell? ⟨w.heap.size, 5, none⟩ = some (.int .i64 m.index) := cell_of_block (i := 5) hb4 rfl
      have x6 : w4.cell? ⟨w.heap.size, 6, none⟩ = some (.int .i64 m.count) := cell_of_block (i := 6) hb4 rfl
      have x7 : w4.cell? ⟨w.heap.size, 7, none⟩ = some (.string m.data) := cell_of_block (i := 7) hb4 rfl
      go_wp2_with fail
      go_ret
      exact ⟨by simp, (((((hch.trans' hc1).trans' hc2).trans' hc3).trans' hc4).allocR _).below (Nat.le_refl _) (fun _ h => h.elim)⟩
    · rw [Bool.not_eq_true] at hf
      have HE := Lib.hid (fun W => encode_no m W HMO.out hf)
      have HF := Lib.hid (fun W => refFormed_any m W HMO.out.page HMO.out.data)
      rw [hf] at HF
      have HR := Lib.hid (fun W b h F (H : Here hostR W b 0 h F) => receive_ill W b 0 h F m H HMO.out.page HMO.out.data hf)
      clear hf
      unfold Msg.cells at HE HF HR
      go_enter Try.func9, Try.ntmps9
      go_upto_region 1 with fail
      generalize w.alloc (.cells #[.int .i64 m.kind, .int .i64 m.frm, .int .i64 m.dst, .string m.page, .int .i64 m.epoch, .int .i64 m.index, .int .i64 m.count, .string m.data] 39) = w0 at *
      go_wp2_with fail
      refine (awake_any w0).mono ?_
      rintro e w1 ⟨rfl, hc1⟩
      have hb1 := hc1.keep hbx (fun x => x)
      have x0 : w1.cell? ⟨w.heap.size, 0, none⟩ = some (.int .i64 m.kind) := cell_of_block (i := 0) hb1 rfl
      have x1 : w1.cell? ⟨w.heap.size, 1, none⟩ = some (.int .i64 m.frm) := cell_of_block (i := 1) hb1 rfl
      have x2 : w1.cell? ⟨w.heap.size, 2, none⟩ = some (.int .i64 m.dst) := cell_of_block (i := 2) hb1 rfl
      have x3 : w1.cell? ⟨w.heap.size, 3, none⟩ = some (.string m.page) := cell_of_block (i := 3) hb1 rfl
      have x4 : w1.cell? ⟨w.heap.size, 4, none⟩ = some (.int .i64 m.epoch) := cell_of_block (i := 4) hb1 rfl
      have x5 : w1.cell? ⟨w.heap.size, 5, none⟩ = some (.int .i64 m.index) := cell_of_block (i := 5) hb1 rfl
      have x6 : w1.cell? ⟨w.heap.size, 6, none⟩ = some (.int .i64 m.count) := cell_of_block (i := 6) hb1 rfl
      have x7 : w1.cell? ⟨w.heap.size, 7, none⟩ = some (.string m.data) := cell_of_block (i := 7) hb1 rfl
      go_wp2_with fail
      refine (HE.out _).mono ?_
      rintro e w2 ⟨rfl, hc2⟩
      have hb2 := hc2.keep hb1 (fun x => x)
      clear x0 x1 x2 x3 x4 x5 x6 x7
      have x0 : w2.cell? ⟨w.heap.size, 0, none⟩ = some (.int .i64 m.kind) := cell_of_block (i := 0) hb2 rfl
      have x1 : w2.cell? ⟨w.heap.size, 1, none⟩ = some (.int .i64 m.frm) := cell_of_block (i := 1) hb2 rfl
      have x2 : w2.cell? ⟨w.heap.size, 2, none⟩ = some (.int .i64 m.dst) := cell_of_block (i := 2) hb2 rfl
      have x3 : w2.cell? ⟨w.heap.size, 3, none⟩ = some (.string m.page) := cell_of_block (i := 3) hb2 rfl
      have x4 : w2.cell? ⟨w.heap.size, 4, none⟩ = some (.int .i64 m.epoch) := cell_of_block (i := 4) hb2 rfl
      have x5 : w2.cell? ⟨w.heap.size, 5, none⟩ = some (.int .i64 m.index) := cell_of_block (i := 5) hb2 rfl
      have x6 : w2.cell? ⟨w.heap.size, 6, none⟩ = some (.int .i64 m.count) := cell_of_block (i := 6) hb2 rfl
      have x7 : w2.cell? ⟨w.heap.size, 7, none⟩ = some (.string m.data) := cell_of_block (i := 7) hb2 rfl
      go_wp2_with fail
      refine (HF.out _).mono ?_
      rintro e w3 ⟨rfl, hc3⟩
      have hb3 := hc3.keep hb2 (fun x => x)
      clear x0 x1 x2 x3 x4 x5 x6 x7
      have x2 : w3.cell? ⟨w.heap.size, 2, none⟩ = some (.int .i64 m.dst) := cell_of_block (i := 2) hb3 rfl
      go_wp2_with fail
      · refine (new_any 0 w3).mono ?_
        rintro e w4 ⟨rfl, hc4⟩
        rw [if_neg (by omega), if_neg (by omega)]
        have H4 := (((((Own.made (A := hostR) w4 26 _ (newHost 0) (newHost_own w4 0)).from hc4).from hc3).from hc2).from hc1).from hch
        have hb4 := alloc_old (.cells #[.int .i64 0, .slice none 0 0, .slice none 0 0] 26) (hc4.keep hb3 (fun x => x))
        go_upto_region 6 with fail
        have hbl := lt_of_block hb4
        clear x2
        generalize w4.alloc (.cells #[.int .i64 0, .slice none 0 0, .slice none 0 0] 26) = w5 at *
        have x0 : w5.cell? ⟨w.heap.size, 0, none⟩ = some (.int .i64 m.kind) := cell_of_block (i := 0) hb4 rfl
        have x1 : w5.cell? ⟨w.heap.size, 1, none⟩ = some (.int .i64 m.frm) := cell_of_block (i := 1) hb4 rfl
        have x2 : w5.cell? ⟨w.heap.size, 2, none⟩ = some (.int .i64 m.dst) := cell_of_block (i := 2) hb4 rfl
        have x3 : w5.cell? ⟨w.heap.size, 3, none⟩ = some (.string m.page) := cell_of_block (i := 3) hb4 rfl
        have x4 : w5.cell? ⟨w.heap.size, 4, none⟩ = some (.int .i64 m.epoch) := cell_of_block (i := 4) hb4 rfl
        have x5 : w5.cell? ⟨w.heap.size, 5, none⟩ = some (.int .i64 m.index) := cell_of_block (i := 5) hb4 rfl
        have x6 : w5.cell? ⟨w.heap.size, 6, none⟩ = some (.int .i64 m.count) := cell_of_block (i := 6) hb4 rfl
        have x7 : w5.cell? ⟨w.heap.size, 7, none⟩ = some (.string m.data) := cell_of_block (i := 7) hb4 rfl
        go_wp2_with fail
        refine (HR.out _ _ _ _ H4.here).mono ?_
        rintro e w6 ⟨rfl, hc6⟩
        have H6 := H4.still hc6
        obtain ⟨vs, vo, -, k1, -, Fa, Fb, hown, -⟩ := hostCells H6.here
        obtain ⟨xs, Fs, hopen⟩ := Rep.opened hown
        obtain ⟨aa, cc, rfl, -⟩ := hopen.val
        rw [Nat.zero_add] at k1
        go_wp2_with fail
        refine (send_any w6 _ 0 _ _ H6.here).mono ?_
        rintro e w7 ⟨v, F7, G, rfl, h7, hs7, hown7, -⟩
        have H7 := H6.step h7 hs7
        obtain ⟨xs2, Fs2, hopen2⟩ := Rep.opened hown7
        obtain ⟨aa2, cc2, rfl, -⟩ := hopen2.val
        simp only [newHost, List.length_nil]
        go_wp2_with fail
        go_ret
        exact ⟨rfl, H7.chg.below (Nat.le_refl _) (fun _ h => h.elim)⟩
      · refine (new_any m.dst w3).mono ?_
        rintro e w4 ⟨rfl, hc4⟩
        rw [if_neg (by omega), if_neg (by omega)]
        have H4 := (((((Own.made (A := hostR) w4 26 _ (newHost m.dst) (newHost_own w4 m.dst)).from hc4).from hc3).from hc2).from hc1).from hch
        have hb4 := alloc_old (.cells #[.int .i64 m.dst, .slice none 0 0, .slice none 0 0] 26) (hc4.keep hb3 (fun x => x))
        go_upto_region 6 with fail
        have hbl := lt_of_block hb4
        clear x2
        generalize w4.alloc (.cells #[.int .i64 m.dst, .slice none 0 0, .slice none 0 0] 26) = w5 at *
        have x0 : w5.cell? ⟨w.heap.size, 0, none⟩ = some (.int .i64 m.kind) := cell_of_block (i := 0) hb4 rfl
        have x1 : w5.cell? ⟨w.heap.size, 1, none⟩ = some (.int .i64 m.frm) := cell_of_block (i := 1) hb4 rfl
        have x2 : w5.cell? ⟨w.heap.size, 2, none⟩ = some (.int .i64 m.dst) := cell_of_block (i := 2) hb4 rfl
        have x3 : w5.cell? ⟨w.heap.size, 3, none⟩ = some (.string m.page) := cell_of_block (i := 3) hb4 rfl
        have x4 : w5.cell? ⟨w.heap.size, 4, none⟩ = some (.int .i64 m.epoch) := cell_of_block (i := 4) hb4 rfl
        have x5 : w5.cell? ⟨w.heap.size, 5, none⟩ = some (.int .i64 m.index) := cell_of_block (i := 5) hb4 rfl
        have x6 : w5.cell? ⟨w.heap.size, 6, none⟩ = some (.int .i64 m.count) := cell_of_block (i := 6) hb4 rfl
        have x7 : w5.cell? ⟨w.heap.size, 7, none⟩ = some (.string m.data) := cell_of_block (i := 7) hb4 rfl
        go_wp2_with fail
        refine (HR.out _ _ _ _ H4.here).mono ?_
        rintro e w6 ⟨rfl, hc6⟩
        have H6 := H4.still hc6
        obtain ⟨vs, vo, -, k1, -, Fa, Fb, hown, -⟩ := hostCells H6.here
        obtain ⟨xs, Fs, hopen⟩ := Rep.opened hown
        obtain ⟨aa, cc, rfl, -⟩ := hopen.val
        rw [Nat.zero_add] at k1
        go_wp2_with fail
        refine (send_any w6 _ 0 _ _ H6.here).mono ?_
        rintro e w7 ⟨v, F7, G, rfl, h7, hs7, hown7, -⟩
        have H7 := H6.step h7 hs7
        obtain ⟨xs2, Fs2, hopen2⟩ := Rep.opened hown7
        obtain ⟨aa2, cc2, rfl, -⟩ := hopen2.val
        simp only [newHost, List.length_nil]
        go_wp2_with fail
        go_ret
        exact ⟨rfl, H7.chg.below (Nat.le_refl _) (fun _ h => h.elim)⟩
set_option maxRecDepth 100000 in
theorem migrateCodes_lifted (os : Os) (started : os.Started) (H : Type) (enc : TypeId × Value → H) :
    ReturnsInHanded {} Try.checked os 9 .any (Rows.migrateCodesSpec.pre6 enc Try.prog Try.f9 [] false) (Rows.migrateCodesSpec.post enc Try.prog Try.f9 false true false false) := by
  refine law_lift (C := Try.checked) (tb := 4) started Try.own Try.laidOut (by kernel_rfl) Try.func9 (by kernel_rfl) rfl Try.underlying4 rfl ?_
    (ChangeSpec.witness6 (enc := enc) (C := Try.checked) false ⟨#[], #[.agg #[.int .i64 0, .int .i64 0, .int .i64 0, .string ByteArray.empty, .int .i64 0, .int .i64 0, .int .i64 0, .string ByteArray.empty]], []⟩ 8 (by kernel_rfl) (by kernel_rfl) (by kernel_rfl) (by kernel_rfl)) ?_
  · intro ds h
    match ds, h with
    | [_], _ => rfl
  · intro W base vs ds ps hval hA hsz
    have hp : Try.f9.params.toList = [39] := by rw [Try.params9]
    rw [hp] at hval hA hsz
    obtain ⟨v0, vs0, d0, ds0, p0, q0, rfl, rfl, rfl, h0, r0⟩ := trodAll_cons hA
    obtain ⟨rfl, rfl, rfl⟩ := trodAll_nil r0
    obtain ⟨a0, rfl, w0⟩ := open_msg (hval 0 39 v0 rfl rfl) h0
    exact migrateCodes_walk a0 W w0

theorem migrateCodes_holds : Rows.MigrateCodesSaid :=
  OpenClaim.holds_of_wide 9 Try.f9 rfl rfl rfl rfl rfl rfl rfl ⟨rfl, rfl, rfl, rfl, rfl⟩ rfl rfl rfl rfl rfl (by kernel_rfl) Try.func9 (by kernel_rfl)
    (of_decide_eq_true (by kernel_rfl)) (by unfold Func.isWrapper; first | (rw [if_pos (by decide +kernel)]; kernel_rfl) | (rw [if_neg (by decide +kernel)]; exact ⟨rfl, rfl⟩))
    (fun os started H enc _ => migrateCodes_lifted os started H enc)
#print axioms migrateCodes_holds
end Go.Proofs.Ytkoopagjjmdodaa
