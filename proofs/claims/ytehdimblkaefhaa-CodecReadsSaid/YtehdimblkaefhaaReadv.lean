/-
  The law's function read: a value of a kind, with the Reader's state behind it.
-/
import Derived.Test.YtehdimblkaefhaaOwn
import Derived.Deep.CutBlock
namespace Go.Proofs.Ytehdimblkaefhaa
open Go.RowKit
set_option linter.unusedVariables false

/-- A value that was read. -/
structure RVal where
  u : Nat
  n : Int
  b : Bool
  s : ByteArray
  p : Int
  e : Int
def RVal.cells (r : RVal) : Array Value := #[.int .u64 r.u, .int .i64 r.n, .bool r.b, .string r.s, .int .i64 r.p, .int .i64 r.e]
/-- What the program reads. -/
def readR (s : ByteArray) (p e : Int) (kind : Nat) (most : Int) : RVal :=
  match kind with
  | 0 => ⟨(rU s p e).1, 0, false, ByteArray.empty, (rU s p e).2.1, (rU s p e).2.2⟩
  | 1 => ⟨0, Kn.unzig (rU s p e).1, false, ByteArray.empty, (rU s p e).2.1, (rU s p e).2.2⟩
  | 2 => ⟨0, 0, (rB s p e).1, ByteArray.empty, (rB s p e).2.1, (rB s p e).2.2⟩
  | 3 => ⟨0, 0, false, (rS s p e).1, (rS s p e).2.1, (rS s p e).2.2⟩
  | _ => ⟨(rC s p e most).1, 0, false, ByteArray.empty, (rC s p e most).2.1, (rC s p e most).2.2⟩

/-- The four values that the switch sets. -/
def readC (s : ByteArray) (p e : Int) (kind : Nat) (most : Int) : Array Value :=
  #[.int .u64 (readR s p e kind most).u, .int .i64 (readR s p e kind most).n, .bool (readR s p e kind most).b, .string (readR s p e kind most).s, .int .i64 0, .int .i64 0]

set_option maxHeartbeats 1600000 in
set_option maxRecDepth 100000 in
theorem read_any (w : World) (b : Nat) (s : ByteArray) (p e : Int) (kind : Nat) (most : Int) (hk : kind < 5) (hm1 : -9223372036854775808 ≤ most) (hm2 : most < 9223372036854775808) (hr : RdAt w b 32 s p e) (hs : s.size ≤ 140737488355328) :
    Calls Try.prog 23 #[.pointer (some ⟨b, 0, none⟩), .int .i64 kind, .int .i64 most] w fun x w' => x = .returned (.agg (readR s p e kind most).cells) ∧ RdAt w' b 32 s (readR s p e kind most).p (readR s p e kind most).e ∧ Chg (· = b) w w' := by
  have hb := lt_of_block hr
  have h6 : ((w.alloc (.cells #[.int .u64 0, .int .i64 0, .bool false, .string ⟨#[]⟩, .int .i64 0, .int .i64 0] 49)).alloc (.cells #[.int .u64 0, .int .i64 0, .bool false, .string ⟨#[]⟩, .int .i64 0, .int .i64 0] 49)).heap[w.heap.size]? = some (.cells #[.int .u64 0, .int .i64 0, .bool false, .string ⟨#[]⟩, .int .i64 0, .int .i64 0] 49) := alloc_old _ (alloc_block w _)
  have h7 : ((w.alloc (.cells #[.int .u64 0, .int .i64 0, .bool false, .string ⟨#[]⟩, .int .i64 0, .int .i64 0] 49)).alloc (.cells #[.int .u64 0, .int .i64 0, .bool false, .string ⟨#[]⟩, .int .i64 0, .int .i64 0] 49)).heap[w.heap.size + 1]? = some (.cells #[.int .u64 0, .int .i64 0, .bool false, .string ⟨#[]⟩, .int .i64 0, .int .i64 0] 49) := by
    have := alloc_block (w.alloc (.cells #[.int .u64 0, .int .i64 0, .bool false, .string ⟨#[]⟩, .int .i64 0, .int .i64 0] 49)) (.cells #[.int .u64 0, .int .i64 0, .bool false, .string ⟨#[]⟩, .int .i64 0, .int .i64 0] 49)
    simpa using this
  have hch0 : Chg (fun _ => False) w ((w.alloc (.cells #[.int .u64 0, .int .i64 0, .bool false, .string ⟨#[]⟩, .int .i64 0, .int .i64 0] 49)).alloc (.cells #[.int .u64 0, .int .i64 0, .bool false, .string ⟨#[]⟩, .int .i64 0, .int .i64 0] 49)) := (Chg.alloc _ w _).allocR _
  go_enter Try.func23, Try.ntmps23
  go_upto_block 0 with fail
  generalize (w.alloc (.cells #[.int .u64 0, .int .i64 0, .bool false, .string ⟨#[]⟩, .int .i64 0, .int .i64 0] 49)).alloc (.cells #[.int .u64 0, .int .i64 0, .bool false, .string ⟨#[]⟩, .int .i64 0, .int .i64 0] 49) = w0 at *
  have hr0 : RdAt w0 b 32 s p e := hr.keep hch0 (fun x => x)
  have hne6 : w.heap.size ≠ b := by omega
  have hne7 : w.heap.size + 1 ≠ b := by omega
  have HN6 := Lib.hid hne6
  have HN7 := Lib.hid hne7
  clear hne6 hne7
  go_cut [8] (fun _ wx => wx.heap[w.heap.size]? = some (.cells #[.int .u64 0, .int .i64 0, .bool false, .string ⟨#[]⟩, .int .i64 0, .int .i64 0] 49) ∧ wx.heap[w.heap.size + 1]? = some (.cells (readC s p e kind most) 49) ∧
    RdAt wx b 32 s (readR s p e kind most).p (readR s p e kind most).e ∧ Chg (· = b) w wx)
  case first =>
    match kind, hk with
    | 0, _ =>
      rw [show ((0 : Nat) : Int) = 0 from rfl]
      go_wp2_with fail
      refine (rUint_any w0 b s p e hr0 hs).mono ?_
      rintro x w1 ⟨rfl, hr1, hc1⟩
      have g6 := hc1.keep h6 HN6.out
      have g7 := hc1.keep h7 HN7.out
      have c7 := cell_of_block (i := 0) g7 rfl
      have f7 := frozen_of_block (i := 0) g7
      go_wp2_with fail
      go_meet
      refine ⟨setCell_other _ g6 (by omega), setCell_block _ g7, ?_, ?_⟩
      · exact setCell_other _ hr1 (Ne.symm HN7.out)
      · refine (hch0.trans hc1 (fun _ _ x => x.elim) (fun _ _ x => x)).setCellR _ _ ?_
        intro h; simp at h; omega
    | 1, _ =>
      rw [show ((1 : Nat) : Int) = 1 from rfl]
      go_wp2_with fail
      refine (rInt_any w0 b s p e hr0 hs).mono ?_
      rintro x w1 ⟨rfl, hr1, hc1⟩
      have g6 := hc1.keep h6 HN6.out
      have g7 := hc1.keep h7 HN7.out
      have c7 := cell_of_block (i := 1) g7 rfl
      have f7 := frozen_of_block (i := 1) g7
      go_wp2_with fail
      go_meet
      refine ⟨setCell_other _ g6 (by omega), setCell_block _ g7, ?_, ?_⟩
      · exact setCell_other _ hr1 (Ne.symm HN7.out)
      · refine (hch0.trans hc1 (fun _ _ x => x.elim) (fun _ _ x => x)).setCellR _ _ ?_
        intro h; simp at h; omega
    | 2, _ =>
      rw [show ((2 : Nat) : Int) = 2 from rfl]
      go_wp2_with fail
      refine (rBool_any w0 b s p e hr0 hs).mono ?_
      rintro x w1 ⟨rfl, hr1, hc1⟩
      have g6 := hc1.keep h6 HN6.out
      have g7 := hc1.keep h7 HN7.out
      have c7 := cell_of_block (i := 2) g7 rfl
      have f7 := frozen_of_block (i := 2) g7
      go_wp2_with fail
      go_meet
      refine ⟨setCell_other _ g6 (by omega), setCell_block _ g7, ?_, ?_⟩
      · exact setCell_other _ hr1 (Ne.symm HN7.out)
      · refine (hch0.trans hc1 (fun _ _ x => x.elim) (fun _ _ x => x)).setCellR _ _ ?_
        intro h; simp at h; omega
    | 3, _ =>
      rw [show ((3 : Nat) : Int) = 3 from rfl]
      go_wp2_with fail
      refine (rString_any w0 b s p e hr0 hs).mono ?_
      rintro x w1 ⟨rfl, hr1, hc1⟩
      have g6 := hc1.keep h6 HN6.out
      have g7 := hc1.keep h7 HN7.out
      have c7 := cell_of_block (i := 3) g7 rfl
      have f7 := frozen_of_block (i := 3) g7
      go_wp2_with fail
      go_meet
      refine ⟨setCell_other _ g6 (by omega), setCell_block _ g7, ?_, ?_⟩
      · exact setCell_other _ hr1 (Ne.symm HN7.out)
      · refine (hch0.trans hc1 (fun _ _ x => x.elim) (fun _ _ x => x)).setCellR _ _ ?_
        intro h; simp at h; omega
    | 4, _ =>
      rw [show ((4 : Nat) : Int) = 4 from rfl]
      have hrc : (rC s p e most).1 < 9223372036854775808 := by
        unfold rC
        split
        · split
          · simp
          · split
            · simp
            · simp only; omega
        · simp
      go_wp2_with fail
      refine (rCount_any w0 b s p e most hm1 hm2 hr0 hs).mono ?_
      rintro x w1 ⟨rfl, hr1, hc1⟩
      have g6 := hc1.keep h6 HN6.out
      have g7 := hc1.keep h7 HN7.out
      have c7 := cell_of_block (i := 0) g7 rfl
      have f7 := frozen_of_block (i := 0) g7
      go_wp2_with fail
      go_meet
      refine ⟨setCell_other _ g6 (by omega), setCell_block _ g7, ?_, ?_⟩
      · exact setCell_other _ hr1 (Ne.symm HN7.out)
      · refine (hch0.trans hc1 (fun _ _ x => x.elim) (fun _ _ x => x)).setCellR _ _ ?_
        intro h; simp at h; omega
  case rest =>
    obtain ⟨g6, g7, hr1, hc1⟩ := hcut
    generalize wc = w1 at *
    have r1 := cell_of_block (i := 1) hr1 rfl
    have r2 := cell_of_block (i := 2) hr1 rfl
    have c0 := cell_of_block (i := 0) g7 rfl
    have c1 := cell_of_block (i := 1) g7 rfl
    have c2 := cell_of_block (i := 2) g7 rfl
    have c3 := cell_of_block (i := 3) g7 rfl
    have c4 := cell_of_block (i := 4) g7 rfl
    have c5 := cell_of_block (i := 5) g7 rfl
    have f4 := frozen_of_block (i := 4) g7
    have f5 := frozen_of_block (i := 5) g7
    go_upto_region 12 with fail
    go_cut [34] (fun _ wx => wx.heap[w.heap.size]? = some (.cells #[.int .u64 0, .int .i64 0, .bool false, .string ⟨#[]⟩, .int .i64 0, .int .i64 0] 49) ∧ wx.heap[w.heap.size + 1]? = some (.cells (readR s p e kind most).cells 49) ∧
      RdAt wx b 32 s (readR s p e kind most).p (readR s p e kind most).e ∧ Chg (· = b) w wx)
    case first =>
      have hq1 : b ≠ w.heap.size + 1 := Ne.symm HN7.out
      have hq2 : w.heap.size + 1 ≠ b := HN7.out
      go_region_held3 (fun w' => w'.cell? ⟨b, 1, none⟩ = some (.int .i64 (readR s p e kind most).p) ∧ w'.cell? ⟨b, 2, none⟩ = some (.int .i64 (readR s p e kind most).e)) (go_keep) (fail)
      go_wp2_with fail
      go_meet
      refine ⟨setCell_other _ (setCell_other _ g6 (by omega)) (by omega), setCell_block _ (setCell_block _ g7), setCell_other _ (setCell_other _ hr1 hq1) hq1, ?_⟩
      refine ((hc1.setCellR _ _ ?_).setCellR _ _ ?_).drewR
      · intro h; simp at h; omega
      · intro h; simp at h; omega
    case rest =>
      clear c0 c1 c2 c3 c4 c5 f4 f5 r1 r2 g6 g7 hr1 hc1
      obtain ⟨g6, g7, hr1, hc1⟩ := hcut
      generalize wc = w2 at *
      generalize hRR : readR s p e kind most = R at *
      have HRR := Lib.hid hRR
      clear hRR
      have c0 : w2.cell? ⟨w.heap.size + 1, 0, none⟩ = some (.int .u64 R.u) := cell_of_block (i := 0) g7 rfl
      have c1 : w2.cell? ⟨w.heap.size + 1, 1, none⟩ = some (.int .i64 R.n) := cell_of_block (i := 1) g7 rfl
      have c2 : w2.cell? ⟨w.heap.size + 1, 2, none⟩ = some (.bool R.b) := cell_of_block (i := 2) g7 rfl
      have c3 : w2.cell? ⟨w.heap.size + 1, 3, none⟩ = some (.string R.s) := cell_of_block (i := 3) g7 rfl
      have c4 : w2.cell? ⟨w.heap.size + 1, 4, none⟩ = some (.int .i64 R.p) := cell_of_block (i := 4) g7 rfl
      have c5 : w2.cell? ⟨w.heap.size + 1, 5, none⟩ = some (.int .i64 R.e) := cell_of_block (i := 5) g7 rfl
      have d0 := cell_of_block (i := 0) g6 rfl
      have d1 := cell_of_block (i := 1) g6 rfl
      have d2 := cell_of_block (i := 2) g6 rfl
      have d3 := cell_of_block (i := 3) g6 rfl
      have d4 := cell_of_block (i := 4) g6 rfl
      have d5 := cell_of_block (i := 5) g6 rfl
      have f0 := frozen_of_block (i := 0) g6
      have f1 := frozen_of_block (i := 1) g6
      have f2 := frozen_of_block (i := 2) g6
      have f3 := frozen_of_block (i := 3) g6
      have f4 := frozen_of_block (i := 4) g6
      have f5 := frozen_of_block (i := 5) g6
      go_wp2_with fail
      have hg := setCell_block (i := 5) (.int .i64 R.e) (setCell_block (i := 4) (.int .i64 R.p) (setCell_block (i := 3) (.string R.s) (setCell_block (i := 2) (.bool R.b) (setCell_block (i := 1) (.int .i64 R.n) (setCell_block (i := 0) (.int .u64 R.u) g6)))))
      have hR := setCell_other (i := 5) (.int .i64 R.e) (setCell_other (i := 4) (.int .i64 R.p) (setCell_other (i := 3) (.string R.s) (setCell_other (i := 2) (.bool R.b) (setCell_other (i := 1) (.int .i64 R.n) (setCell_other (i := 0) (.int .u64 R.u) hr1 (Ne.symm HN6.out)) (Ne.symm HN6.out)) (Ne.symm HN6.out)) (Ne.symm HN6.out)) (Ne.symm HN6.out)) (Ne.symm HN6.out)
      have hC : Chg (· = b) w ((((((w2.setCell ⟨w.heap.size, 0, none⟩ (.int .u64 R.u)).setCell ⟨w.heap.size, 1, none⟩ (.int .i64 R.n)).setCell ⟨w.heap.size, 2, none⟩ (.bool R.b)).setCell ⟨w.heap.size, 3, none⟩ (.string R.s)).setCell ⟨w.heap.size, 4, none⟩ (.int .i64 R.p)).setCell ⟨w.heap.size, 5, none⟩ (.int .i64 R.e)) :=
        (((((hc1.setCellR _ _ (fun h => absurd h (Nat.lt_irrefl _))).setCellR _ _ (fun h => absurd h (Nat.lt_irrefl _))).setCellR _ _ (fun h => absurd h (Nat.lt_irrefl _))).setCellR _ _ (fun h => absurd h (Nat.lt_irrefl _))).setCellR _ _ (fun h => absurd h (Nat.lt_irrefl _))).setCellR _ _ (fun h => absurd h (Nat.lt_irrefl _))
      generalize ((((((w2.setCell ⟨w.heap.size, 0, none⟩ (.int .u64 R.u)).setCell ⟨w.heap.size, 1, none⟩ (.int .i64 R.n)).setCell ⟨w.heap.size, 2, none⟩ (.bool R.b)).setCell ⟨w.heap.size, 3, none⟩ (.string R.s)).setCell ⟨w.heap.size, 4, none⟩ (.int .i64 R.p)).setCell ⟨w.heap.size, 5, none⟩ (.int .i64 R.e)) = w3 at *
      have e0 : w3.cell? ⟨w.heap.size, 0, none⟩ = some (.int .u64 R.u) := cell_of_block (i := 0) hg rfl
      have e1 : w3.cell? ⟨w.heap.size, 1, none⟩ = some (.int .i64 R.n) := cell_of_block (i := 1) hg rfl
      have e2 : w3.cell? ⟨w.heap.size, 2, none⟩ = some (.bool R.b) := cell_of_block (i := 2) hg rfl
      have e3 : w3.cell? ⟨w.heap.size, 3, none⟩ = some (.string R.s) := cell_of_block (i := 3) hg rfl
      have e4 : w3.cell? ⟨w.heap.size, 4, none⟩ = some (.int .i64 R.p) := cell_of_block (i := 4) hg rfl
      have e5 : w3.cell? ⟨w.heap.size, 5, none⟩ = some (.int .i64 R.e) := cell_of_block (i := 5) hg rfl
      rw [HRR.out]
      exact bodyPost_ret (v := .agg R.cells) (by simp [results, Try.results23, go_sem, e0, e1, e2, e3, e4, e5, RVal.cells]) rfl ⟨rfl, hR, hC⟩
end Go.Proofs.Ytehdimblkaefhaa
