/-
  Decode and Encode of layer 54.
-/
import Derived.Test.YtkoopagjjmdodaaMigi
import Derived.Test.YtkoopagjjmdodaaBack
set_option profiler true
set_option profiler.threshold 3000
namespace Go.Proofs.Ytkoopagjjmdodaa
open Go.RowKit
set_option linter.unusedVariables false

/-- A Reader's state: place and error. -/
abbrev RS := Int × Int
def rI (s : ByteArray) (r : RS) : Int × RS := (Kn.unzig (rU s r.1 r.2).1, (rU s r.1 r.2).2)
def rT (s : ByteArray) (r : RS) : ByteArray × RS := ((rS s r.1 r.2).1, (rS s r.1 r.2).2)
/-- What Decode has read. -/
def decR (s : ByteArray) : Msg × RS :=
  ((⟨(rI s (0, 0)).1, (rI s (rI s (0, 0)).2).1, (rI s (rI s (rI s (0, 0)).2).2).1, (rT s (rI s (rI s (rI s (0, 0)).2).2).2).1,
    (rI s (rT s (rI s (rI s (rI s (0, 0)).2).2).2).2).1, (rI s (rI s (rT s (rI s (rI s (rI s (0, 0)).2).2).2).2).2).1,
    (rI s (rI s (rI s (rT s (rI s (rI s (rI s (0, 0)).2).2).2).2).2).2).1,
    (rT s (rI s (rI s (rI s (rT s (rI s (rI s (rI s (0, 0)).2).2).2).2).2).2).2).1⟩),
    (rT s (rI s (rI s (rI s (rT s (rI s (rI s (rI s (0, 0)).2).2).2).2).2).2).2).2)
def zeroMsg : Msg := ⟨0, 0, 0, ⟨#[]⟩, 0, 0, 0, ⟨#[]⟩⟩
def decodeM (s : ByteArray) : Msg × Int :=
  if (decR s).2.2 ≠ 0 ∨ (decR s).2.1 ≠ s.size ∨ formedB (decR s).1 = false then (zeroMsg, 3) else ((decR s).1, 0)
theorem rT_size (s : ByteArray) (r : RS) : (rT s r).1.size ≤ s.size := by
  unfold rT rS
  have h := restOf_size s r.1
  split
  · split
    · simp
    · simp only [ByteArray.size_extract]; omega
  · simp

def RdS (w : World) (b : Nat) (s : ByteArray) (r : RS) : Prop := RdAt w b 85 s r.1 r.2
section
variable {w w' : World} {b : Nat} {s : ByteArray} {r : RS}
theorem readInt (hr : RdS w b s r) (hs : s.size ≤ 140737488355328) :
    Calls Try.prog 43 #[.pointer (some ⟨b, 0, none⟩)] w fun e w' => e = .returned (.int .i64 (rI s r).1) ∧ RdS w' b s (rI s r).2 ∧ Chg (· = b) w w' := rInt_any w b s r.1 r.2 hr hs
theorem readStr (hr : RdS w b s r) (hs : s.size ≤ 140737488355328) :
    Calls Try.prog 44 #[.pointer (some ⟨b, 0, none⟩)] w fun e w' => e = .returned (.string (rT s r).1) ∧ RdS w' b s (rT s r).2 ∧ Chg (· = b) w w' := rString_any w b s r.1 r.2 hr hs
theorem RdS.keep {S : Nat → Prop} (h : RdS w b s r) (hc : Chg S w w') (hn : ¬ S b) : RdS w' b s r := RdAt.keep h hc hn
theorem readDone (hr : RdS w b s r) (hs : s.size ≤ 140737488355328) :
    Calls Try.prog 45 #[.pointer (some ⟨b, 0, none⟩)] w fun e w' => e = .returned (.int .i64 (if r.2 ≠ 0 then r.2 else if r.1 ≠ s.size then 3 else 0)) ∧ Chg (fun _ => False) w w' := rDone_any w b s r.1 r.2 hr hs
end

/-- A struct of eight cells stored. -/
theorem store8 {w : World} {b T : Nat} {c : Array Value} (h : w.heap[b]? = some (.cells c T (0, 0))) (hc : c.size = 8) (v0 v1 v2 v3 v4 v5 v6 v7 : Value) :
    ((((((((w.setCell ⟨b, 0, none⟩ v0).setCell ⟨b, 1, none⟩ v1).setCell ⟨b, 2, none⟩ v2).setCell ⟨b, 3, none⟩ v3).setCell ⟨b, 4, none⟩ v4).setCell ⟨b, 5, none⟩ v5).setCell ⟨b, 6, none⟩ v6).setCell ⟨b, 7, none⟩ v7).heap[b]? = some (.cells #[v0, v1, v2, v3, v4, v5, v6, v7] T (0, 0)) ∧
    Chg (· = b) w ((((((((w.setCell ⟨b, 0, none⟩ v0).setCell ⟨b, 1, none⟩ v1).setCell ⟨b, 2, none⟩ v2).setCell ⟨b, 3, none⟩ v3).setCell ⟨b, 4, none⟩ v4).setCell ⟨b, 5, none⟩ v5).setCell ⟨b, 6, none⟩ v6).setCell ⟨b, 7, none⟩ v7) := by
  refine ⟨?_, (((((((Chg.setCell w ⟨b, 0, none⟩ v0).trans' (Chg.setCell _ ⟨b, 1, none⟩ v1)).trans' (Chg.setCell _ ⟨b, 2, none⟩ v2)).trans' (Chg.setCell _ ⟨b, 3, none⟩ v3)).trans' (Chg.setCell _ ⟨b, 4, none⟩ v4)).trans' (Chg.setCell _ ⟨b, 5, none⟩ v5)).trans' (Chg.setCell _ ⟨b, 6, none⟩ v6)).trans' (Chg.setCell _ ⟨b, 7, none⟩ v7)⟩
  rw [setCell_block v7 (setCell_block v6 (setCell_block v5 (setCell_block v4 (setCell_block v3 (setCell_block v2 (setCell_block v1 (setCell_block v0 h)))))))]
  obtain ⟨l⟩ := c
  match l, hc with
  | [_, _, _, _, _, _, _, _], _ => simp

/-- The end of Decode: the struct that it returns lies in the first block that it made. -/
theorem dec_end {w w' : World} {n : Nat} {v0 v1 v2 v3 v4 v5 v6 v7 : Value} {e : Int} {M : Msg} {a : Act} (hb : w'.heap[n]? = some (.cells #[v0, v1, v2, v3, v4, v5, v6, v7] 39 (0, 0))) (hc : Chg (fun k => n ≤ k) w w') (hn : n = w.heap.size)
    (h2 : a.tmps[2]? = some (.pointer (some ⟨n, 0, none⟩))) (h3 : a.tmps[3]? = some (.int .i64 e)) (hd : a.defers = []) (hM : (#[v0, v1, v2, v3, v4, v5, v6, v7] : Array Value) = M.cells.toArray) :
    bodyPost Try.prog Try.f18 (fun e' w' => e' = .returned (.tuple #[.agg M.cells.toArray, .int .i64 e]) ∧ Chg (fun _ => False) w w') .ret a w' := by
  subst hn
  refine bodyPost_ret (v := .tuple #[.agg M.cells.toArray, .int .i64 e]) ?_ hd ⟨rfl, hc.mono (fun i hi x => by omega)⟩
  have c0 := cell_of_block (i := 0) hb rfl
  have c1 := cell_of_block (i := 1) hb rfl
  have c2 := cell_of_block (i := 2) hb rfl
  have c3 := cell_of_block (i := 3) hb rfl
  have c4 := cell_of_block (i := 4) hb rfl
  have c5 := cell_of_block (i := 5) hb rfl
  have c6 := cell_of_block (i := 6) hb rfl
  have c7 := cell_of_block (i := 7) hb rfl
  rw [← hM]
  simp [results, Try.results18, go_sem, h2, h3, c0, c1, c2, c3, c4, c5, c6, c7]

set_option maxHeartbeats 3200000 in
set_option maxRecDepth 100000 in
theorem decode_any (s : ByteArray) (w : World) (hs : s.size ≤ 140737488351232) :
    Calls Try.prog 18 #[.string s] w fun e w' => e = .returned (.tuple #[.agg (decodeM s).1.cells.toArray, .int .i64 (decodeM s).2]) ∧ Chg (fun _ => False) w w' := by
  have hs' : s.size ≤ 140737488355328 := by omega
  have HS := Lib.hid hs'
  have HSZ := Lib.hid hs
  clear hs hs'
  have hM : Hid (decodeM s = if (decR s).2.2 ≠ 0 ∨ (decR s).2.1 ≠ s.size ∨ formedB (decR s).1 = false then (zeroMsg, 3) else ((decR s).1, 0)) := Lib.hid rfl
  generalize decodeM s = D at *
  have h0 : RdS ((w.alloc (.cells #[.int .i64 0, .int .i64 0, .int .i64 0, .string ⟨#[]⟩, .int .i64 0, .int .i64 0, .int .i64 0, .string ⟨#[]⟩] 39)).alloc (.cells #[.string s, .int .i64 0, .int .i64 0] 85)) (w.heap.size + 1) s (0, 0) := by
    have := alloc_block (w.alloc (.cells #[.int .i64 0, .int .i64 0, .int .i64 0, .string ⟨#[]⟩, .int .i64 0, .int .i64 0, .int .i64 0, .string ⟨#[]⟩] 39)) (.cells #[.string s, .int .i64 0, .int .i64 0] 85)
    rw [show (w.alloc (.cells #[.int .i64 0, .int .i64 0, .int .i64 0, .string ⟨#[]⟩, .int .i64 0, .int .i64 0, .int .i64 0, .string ⟨#[]⟩] 39)).heap.size = w.heap.size + 1 from by simp] at this
    exact this
  have ht2 : ((w.alloc (.cells #[.int .i64 0, .int .i64 0, .int .i64 0, .string ⟨#[]⟩, .int .i64 0, .int .i64 0, .int .i64 0, .string ⟨#[]⟩] 39)).alloc (.cells #[.string s, .int .i64 0, .int .i64 0] 85)).heap[w.heap.size]? = some (.cells #[.int .i64 0, .int .i64 0, .int .i64 0, .string ⟨#[]⟩, .int .i64 0, .int .i64 0, .int .i64 0, .string ⟨#[]⟩] 39 (0, 0)) := alloc_old _ (alloc_block w _)
  have hc0 : Chg (fun _ => False) w ((w.alloc (.cells #[.int .i64 0, .int .i64 0, .int .i64 0, .string ⟨#[]⟩, .int .i64 0, .int .i64 0, .int .i64 0, .string ⟨#[]⟩] 39)).alloc (.cells #[.string s, .int .i64 0, .int .i64 0] 85)) := (Chg.alloc _ w _).allocR _
  go_enter Try.func18, Try.ntmps18
  go_upto_region 2 with fail
  generalize (w.alloc (.cells #[.int .i64 0, .int .i64 0, .int .i64 0, .string ⟨#[]⟩, .int .i64 0, .int .i64 0, .int .i64 0, .string ⟨#[]⟩] 39)).alloc (.cells #[.string s, .int .i64 0, .int .i64 0] 85) = w0 at *
  go_wp2_with fail
  refine (readInt h0 HS.out).mono ?_
  rintro e w1 ⟨rfl, h1, hc1⟩
  generalize ha1 : rI s (0, 0) = x1 at *
  obtain ⟨k1, r1⟩ := x1
  have HA1 := Lib.hid ha1
  clear ha1
  simp only at h1
  go_wp2_with fail
  refine (readInt h1 HS.out).mono ?_
  rintro e w2 ⟨rfl, h2, hc2⟩
  generalize ha2 : rI s r1 = x2 at *
  obtain ⟨k2, r2⟩ := x2
  have HA2 := Lib.hid ha2
  clear ha2
  simp only at h2
  go_wp2_with fail
  refine (readInt h2 HS.out).mono ?_
  rintro e w3 ⟨rfl, h3, hc3⟩
  generalize ha3 : rI s r2 = x3 at *
  obtain ⟨k3, r3⟩ := x3
  have HA3 := Lib.hid ha3
  clear ha3
  simp only at h3
  have hc03 := (hc1.trans' hc2).trans' hc3
  clear h1 h2 hc1 hc2 hc3
  have ht3 := hc03.keep ht2 (by omega)
  clear ht2
  replace hc03 : Chg (fun _ => False) w w3 := (hc0.trans hc03 (S'' := fun k => w.heap.size ≤ k) (fun _ _ x => x.elim) (fun i _ x => by omega)).mono (fun i hi x => by omega)
  have hlt3 := lt_of_block h3
  go_upto_region 3 with fail
  have h4 := h3.keep (Chg.alloc (fun _ => False) w3 (.cells #[.int .i64 k1, .int .i64 k2, .int .i64 k3, .string ⟨#[]⟩, .int .i64 0, .int .i64 0, .int .i64 0, .string ⟨#[]⟩] 39)) (fun x => x)
  have hm4 := alloc_block w3 (.cells #[.int .i64 k1, .int .i64 k2, .int .i64 k3, .string ⟨#[]⟩, .int .i64 0, .int .i64 0, .int .i64 0, .string ⟨#[]⟩] 39)
  have ht4 := alloc_old (.cells #[.int .i64 k1, .int .i64 k2, .int .i64 k3, .string ⟨#[]⟩, .int .i64 0, .int .i64 0, .int .i64 0, .string ⟨#[]⟩] 39) ht3
  have hc04 := hc03.allocR (.cells #[.int .i64 k1, .int .i64 k2, .int .i64 k3, .string ⟨#[]⟩, .int .i64 0, .int .i64 0, .int .i64 0, .string ⟨#[]⟩] 39)
  generalize w3.alloc (.cells #[.int .i64 k1, .int .i64 k2, .int .i64 k3, .string ⟨#[]⟩, .int .i64 0, .int .i64 0, .int .i64 0, .string ⟨#[]⟩] 39) = w4 at *
  have hmb : w.heap.size + 1 < w3.heap.size := hlt3
  generalize w3.heap.size = mb at *
  clear ht3 h3 hc03 hlt3 hc0
  go_wp2_with fail
  refine (readStr h4 HS.out).mono ?_
  rintro e w5 ⟨rfl, h5, hc5⟩
  generalize ha4 : rT s r3 = x4 at *
  obtain ⟨k4, r4⟩ := x4
  have HA4 := Lib.hid ha4
  clear ha4
  simp only at h5
  have hm5 := hc5.keep hm4 (by omega)
  have ht5 := hc5.keep ht4 (by omega)
  have c3 : w5.cell? ⟨mb, 3, none⟩ = some (.string ⟨#[]⟩) := cell_of_block (i := 3) hm5 rfl
  have f3 := frozen_of_block (i := 3) hm5
  have hm6 : (w5.setCell ⟨mb, 3, none⟩ (.string k4)).heap[mb]? = some (.cells #[.int .i64 k1, .int .i64 k2, .int .i64 k3, .string k4, .int .i64 0, .int .i64 0, .int .i64 0, .string ⟨#[]⟩] 39 (0, 0)) := setCell_block (i := 3) (.string k4) hm5
  have ht6 := setCell_other (b := mb) (i := 3) (.string k4) ht5 (by omega)
  have h6 := h5.keep (Chg.setCell w5 ⟨mb, 3, none⟩ (.string k4)) (by show ¬ (w.heap.size + 1 = mb); omega)
  have hc06 : Chg (fun _ => False) w (w5.setCell ⟨mb, 3, none⟩ (.string k4)) := by
    refine ((hc04.trans hc5 (S'' := fun k => w.heap.size ≤ k) (fun _ _ x => x.elim) (fun i _ x => by omega)).setCellR _ _ (fun hh => ?_)).mono (fun i hi x => by omega)
    show w.heap.size ≤ mb
    omega
  clear hm4 ht4 h4 hc04
  go_upto_region 4 with fail
  clear c3 f3 hm5 ht5 h5 hc5
  generalize w5.setCell ⟨mb, 3, none⟩ (.string k4) = w6 at *
  go_wp2_with fail
  refine (readInt h6 HS.out).mono ?_
  rintro e w7 ⟨rfl, h7, hc7⟩
  generalize ha5 : rI s r4 = x5 at *
  obtain ⟨k5, r5⟩ := x5
  have HA5 := Lib.hid ha5
  clear ha5
  simp only at h7
  go_wp2_with fail
  refine (readInt h7 HS.out).mono ?_
  rintro e w8 ⟨rfl, h8, hc8⟩
  generalize ha6 : rI s r5 = x6 at *
  obtain ⟨k6, r6⟩ := x6
  have HA6 := Lib.hid ha6
  clear ha6
  simp only at h8
  go_wp2_with fail
  refine (readInt h8 HS.out).mono ?_
  rintro e w9 ⟨rfl, h9, hc9⟩
  generalize ha7 : rI s r6 = x7 at *
  obtain ⟨k7, r7⟩ := x7
  have HA7 := Lib.hid ha7
  clear ha7
  simp only at h9
  have hc69 := (hc7.trans' hc8).trans' hc9
  have hm9 := hc69.keep hm6 (by omega)
  have ht9 := hc69.keep ht6 (by omega)
  have hc09 : Chg (fun _ => False) w w9 := (hc06.trans hc69 (S'' := fun k => w.heap.size ≤ k) (fun _ _ x => x.elim) (fun i _ x => by omega)).mono (fun i hi x => by omega)
  clear hm6 ht6 h6 h7 h8 hc7 hc8 hc9 hc69 hc06
  have c4 : w9.cell? ⟨mb, 4, none⟩ = some (.int .i64 0) := cell_of_block (i := 4) hm9 rfl
  have c5 : w9.cell? ⟨mb, 5, none⟩ = some (.int .i64 0) := cell_of_block (i := 5) hm9 rfl
  have c6 : w9.cell? ⟨mb, 6, none⟩ = some (.int .i64 0) := cell_of_block (i := 6) hm9 rfl
  have f9 := fun i => frozen_of_block (i := i) hm9
  have hm10 : (((w9.setCell ⟨mb, 4, none⟩ (.int .i64 k5)).setCell ⟨mb, 5, none⟩ (.int .i64 k6)).setCell ⟨mb, 6, none⟩ (.int .i64 k7)).heap[mb]? = some (.cells #[.int .i64 k1, .int .i64 k2, .int .i64 k3, .string k4, .int .i64 k5, .int .i64 k6, .int .i64 k7, .string ⟨#[]⟩] 39 (0, 0)) := setCell_block (i := 6) (.int .i64 k7) (setCell_block (i := 5) (.int .i64 k6) (setCell_block (i := 4) (.int .i64 k5) hm9))
  have ht10 := setCell_other (b := mb) (i := 6) (.int .i64 k7) (setCell_other (b := mb) (i := 5) (.int .i64 k6) (setCell_other (b := mb) (i := 4) (.int .i64 k5) ht9 (by omega)) (by omega)) (by omega)
  have hcs : Chg (· = mb) w9 (((w9.setCell ⟨mb, 4, none⟩ (.int .i64 k5)).setCell ⟨mb, 5, none⟩ (.int .i64 k6)).setCell ⟨mb, 6, none⟩ (.int .i64 k7)) := ((Chg.setCell w9 ⟨mb, 4, none⟩ _).trans' (Chg.setCell _ ⟨mb, 5, none⟩ _)).trans' (Chg.setCell _ ⟨mb, 6, none⟩ _)
  have h10 := h9.keep hcs (by omega)
  have hc10 : Chg (fun _ => False) w _ := (hc09.trans hcs (S'' := fun k => w.heap.size ≤ k) (fun _ _ x => x.elim) (fun i _ x => by omega)).mono (fun i hi x => by omega)
  clear hm9 ht9 h9 hc09 hcs
  go_upto_region 5 with fail
  clear c4 c5 c6 f9
  generalize ((w9.setCell ⟨mb, 4, none⟩ (.int .i64 k5)).setCell ⟨mb, 5, none⟩ (.int .i64 k6)).setCell ⟨mb, 6, none⟩ (.int .i64 k7) = w10 at *
  go_wp2_with fail
  refine (readStr h10 HS.out).mono ?_
  rintro e w11 ⟨rfl, h11, hc11⟩
  generalize ha8 : rT s r7 = x8 at *
  obtain ⟨k8, r8⟩ := x8
  have HA8 := Lib.hid ha8
  clear ha8
  simp only at h11
  have hm11 := hc11.keep hm10 (by omega)
  have ht11 := hc11.keep ht10 (by omega)
  have c7 : w11.cell? ⟨mb, 7, none⟩ = some (.string ⟨#[]⟩) := cell_of_block (i := 7) hm11 rfl
  have f7 := frozen_of_block (i := 7) hm11
  have hm12 : (w11.setCell ⟨mb, 7, none⟩ (.string k8)).heap[mb]? = some (.cells (⟨k1, k2, k3, k4, k5, k6, k7, k8⟩ : Msg).cells.toArray 39 (0, 0)) := setCell_block (i := 7) (.string k8) hm11
  have ht12 := setCell_other (b := mb) (i := 7) (.string k8) ht11 (by omega)
  have h12 := h11.keep (Chg.setCell w11 ⟨mb, 7, none⟩ (.string k8)) (by show ¬ (w.heap.size + 1 = mb); omega)
  have hc12 : Chg (fun _ => False) w (w11.setCell ⟨mb, 7, none⟩ (.string k8)) := by
    refine ((hc10.trans hc11 (S'' := fun k => w.heap.size ≤ k) (fun _ _ x => x.elim) (fun i _ x => by omega)).setCellR _ _ (fun hh => ?_)).mono (fun i hi x => by omega)
    show w.heap.size ≤ mb
    omega
  clear hm10 ht10 h10 hc10
  go_upto_region 6 with fail
  clear c7 f7 hm11 ht11 h11 hc11
  generalize w11.setCell ⟨mb, 7, none⟩ (.string k8) = w12 at *
  go_wp2_with fail
  refine (readDone h12 HS.out).mono ?_
  rintro e w13 ⟨rfl, hc13⟩
  have hm13 := hc13.keep hm12 (fun x => x)
  have ht13 := hc13.keep ht12 (fun x => x)
  have hc013 := hc12.trans' hc13
  clear hm12 ht12 h12 hc12 hc13
  have HR : Hid (decR s = (⟨k1, k2, k3, k4, k5, k6, k7, k8⟩, r8)) := Lib.hid (by unfold decR; simp only [HA1.out, HA2.out, HA3.out, HA4.out, HA5.out, HA6.out, HA7.out, HA8.out])
  have hz4 : k4.size ≤ s.size := by have := rT_size s r3; rw [HA4.out] at this; exact this
  have hz8 : k8.size ≤ s.size := by have := rT_size s r7; rw [HA8.out] at this; exact this
  have HZ : Hid (k4.size ≤ 9223372036854775807 ∧ k8.size ≤ 9223372036854775807) := Lib.hid (by have := HSZ.out; omega)
  clear hz4 hz8 HA1 HA2 HA3 HA4 HA5 HA6 HA7 HA8
  obtain ⟨pz, ez⟩ := r8
  have m0 : w13.cell? ⟨mb, 0, none⟩ = some (.int .i64 k1) := cell_of_block (i := 0) hm13 rfl
  have m1 : w13.cell? ⟨mb, 1, none⟩ = some (.int .i64 k2) := cell_of_block (i := 1) hm13 rfl
  have m2 : w13.cell? ⟨mb, 2, none⟩ = some (.int .i64 k3) := cell_of_block (i := 2) hm13 rfl
  have m3 : w13.cell? ⟨mb, 3, none⟩ = some (.string k4) := cell_of_block (i := 3) hm13 rfl
  have m4 : w13.cell? ⟨mb, 4, none⟩ = some (.int .i64 k5) := cell_of_block (i := 4) hm13 rfl
  have m5 : w13.cell? ⟨mb, 5, none⟩ = some (.int .i64 k6) := cell_of_block (i := 5) hm13 rfl
  have m6 : w13.cell? ⟨mb, 6, none⟩ = some (.int .i64 k7) := cell_of_block (i := 6) hm13 rfl
  have m7 : w13.cell? ⟨mb, 7, none⟩ = some (.string k8) := cell_of_block (i := 7) hm13 rfl
  have t0 : w13.cell? ⟨w.heap.size, 0, none⟩ = some (.int .i64 0) := cell_of_block (i := 0) ht13 rfl
  have t1 : w13.cell? ⟨w.heap.size, 1, none⟩ = some (.int .i64 0) := cell_of_block (i := 1) ht13 rfl
  have t2 : w13.cell? ⟨w.heap.size, 2, none⟩ = some (.int .i64 0) := cell_of_block (i := 2) ht13 rfl
  have t3 : w13.cell? ⟨w.heap.size, 3, none⟩ = some (.string ⟨#[]⟩) := cell_of_block (i := 3) ht13 rfl
  have t4 : w13.cell? ⟨w.heap.size, 4, none⟩ = some (.int .i64 0) := cell_of_block (i := 4) ht13 rfl
  have t5 : w13.cell? ⟨w.heap.size, 5, none⟩ = some (.int .i64 0) := cell_of_block (i := 5) ht13 rfl
  have t6 : w13.cell? ⟨w.heap.size, 6, none⟩ = some (.int .i64 0) := cell_of_block (i := 6) ht13 rfl
  have t7 : w13.cell? ⟨w.heap.size, 7, none⟩ = some (.string ⟨#[]⟩) := cell_of_block (i := 7) ht13 rfl
  have hbt := lt_of_block ht13
  have hbm := lt_of_block hm13
  have ft := fun i => frozen_of_block (i := i) ht13
  have hM2 := hM.out
  rw [HR.out] at hM2
  by_cases hD : ez ≠ 0 ∨ pz ≠ (s.size : Int)
  · have hne : (if ez ≠ 0 then ez else if pz ≠ (s.size : Int) then 3 else 0) ≠ 0 := by
      rcases hD with h | h
      · rw [if_pos h]; exact h
      · by_cases h2 : ez ≠ 0
        · rw [if_pos h2]; exact h2
        · rw [if_neg h2, if_pos h]; decide
    rw [if_pos (by rcases hD with h | h; exact .inl h; exact .inr (.inl h))] at hM2
    generalize (if ez ≠ 0 then ez else if pz ≠ (s.size : Int) then (3 : Int) else 0) = q at *
    have hq : (q != 0) = true := by simpa using hne
    subst hM2
    clear hne hD hM
    have hst := store8 ht13 rfl (.int .i64 0) (.int .i64 0) (.int .i64 0) (.string ⟨#[]⟩) (.int .i64 0) (.int .i64 0) (.int .i64 0) (.string ⟨#[]⟩)
    go_wp2_with fail
    obtain ⟨hst1, hst2⟩ := hst
    generalize (((((((w13.setCell ⟨w.heap.size, 0, none⟩ (.int .i64 0)).setCell ⟨w.heap.size, 1, none⟩ (.int .i64 0)).setCell ⟨w.heap.size, 2, none⟩ (.int .i64 0)).setCell ⟨w.heap.size, 3, none⟩ (.string ⟨#[]⟩)).setCell ⟨w.heap.size, 4, none⟩ (.int .i64 0)).setCell ⟨w.heap.size, 5, none⟩ (.int .i64 0)).setCell ⟨w.heap.size, 6, none⟩ (.int .i64 0)).setCell ⟨w.heap.size, 7, none⟩ (.string ⟨#[]⟩) = wF at *
    refine dec_end (M := zeroMsg) hst1 (hc013.trans hst2 (S'' := fun k => w.heap.size ≤ k) (fun _ _ x => x.elim) (fun i _ x => by omega)) rfl ?_ ?_ ?_ (by rfl) <;> rfl
  · rw [show (if ez ≠ 0 then ez else if pz ≠ (s.size : Int) then 3 else 0) = (0 : Int) from by rw [if_neg (fun h => hD (.inl h)), if_neg (fun h => hD (.inr h))]]
    by_cases hf : formedB ⟨k1, k2, k3, k4, k5, k6, k7, k8⟩ = false
    · rw [if_pos (.inr (.inr hf))] at hM2
      subst hM2
      clear hD hM
      go_wp2_with fail
      refine (formed_any ⟨k1, k2, k3, k4, k5, k6, k7, k8⟩ _ HZ.out.1 HZ.out.2).mono ?_
      rintro e w14 ⟨rfl, hc14⟩
      rw [hf]
      have ht14 := hc14.keep ht13 (fun x => x)
      have hc014 := hc013.trans' hc14
      have ft14 := fun i => frozen_of_block (i := i) ht14
      have u0 : w14.cell? ⟨w.heap.size, 0, none⟩ = some (.int .i64 0) := cell_of_block (i := 0) ht14 rfl
      have u1 : w14.cell? ⟨w.heap.size, 1, none⟩ = some (.int .i64 0) := cell_of_block (i := 1) ht14 rfl
      have u2 : w14.cell? ⟨w.heap.size, 2, none⟩ = some (.int .i64 0) := cell_of_block (i := 2) ht14 rfl
      have u3 : w14.cell? ⟨w.heap.size, 3, none⟩ = some (.string ⟨#[]⟩) := cell_of_block (i := 3) ht14 rfl
      have u4 : w14.cell? ⟨w.heap.size, 4, none⟩ = some (.int .i64 0) := cell_of_block (i := 4) ht14 rfl
      have u5 : w14.cell? ⟨w.heap.size, 5, none⟩ = some (.int .i64 0) := cell_of_block (i := 5) ht14 rfl
      have u6 : w14.cell? ⟨w.heap.size, 6, none⟩ = some (.int .i64 0) := cell_of_block (i := 6) ht14 rfl
      have u7 : w14.cell? ⟨w.heap.size, 7, none⟩ = some (.string ⟨#[]⟩) := cell_of_block (i := 7) ht14 rfl
      have hst := store8 ht14 rfl (.int .i64 0) (.int .i64 0) (.int .i64 0) (.string ⟨#[]⟩) (.int .i64 0) (.int .i64 0) (.int .i64 0) (.string ⟨#[]⟩)
      go_wp2_with fail
      obtain ⟨hst1, hst2⟩ := hst
      generalize (((((((w14.setCell ⟨w.heap.size, 0, none⟩ (.int .i64 0)).setCell ⟨w.heap.size, 1, none⟩ (.int .i64 0)).setCell ⟨w.heap.size, 2, none⟩ (.int .i64 0)).setCell ⟨w.heap.size, 3, none⟩ (.string ⟨#[]⟩)).setCell ⟨w.heap.size, 4, none⟩ (.int .i64 0)).setCell ⟨w.heap.size, 5, none⟩ (.int .i64 0)).setCell ⟨w.heap.size, 6, none⟩ (.int .i64 0)).setCell ⟨w.heap.size, 7, none⟩ (.string ⟨#[]⟩) = wF at *
      refine dec_end (M := zeroMsg) hst1 (hc014.trans hst2 (S'' := fun k => w.heap.size ≤ k) (fun _ _ x => x.elim) (fun i _ x => by omega)) rfl ?_ ?_ ?_ (by rfl) <;> rfl
    · rw [if_neg (by rintro (h | h | h); exact hD (.inl h); exact hD (.inr h); exact hf h)] at hM2
      subst hM2
      rw [Bool.not_eq_false] at hf
      clear hD hM
      go_wp2_with fail
      refine (formed_any ⟨k1, k2, k3, k4, k5, k6, k7, k8⟩ _ HZ.out.1 HZ.out.2).mono ?_
      rintro e w14 ⟨rfl, hc14⟩
      rw [hf]
      have ht14 := hc14.keep ht13 (fun x => x)
      have hm14 := hc14.keep hm13 (fun x => x)
      have hc014 := hc013.trans' hc14
      have ft14 := fun i => frozen_of_block (i := i) ht14
      have u0 : w14.cell? ⟨w.heap.size, 0, none⟩ = some (.int .i64 0) := cell_of_block (i := 0) ht14 rfl
      have u1 : w14.cell? ⟨w.heap.size, 1, none⟩ = some (.int .i64 0) := cell_of_block (i := 1) ht14 rfl
      have u2 : w14.cell? ⟨w.heap.size, 2, none⟩ = some (.int .i64 0) := cell_of_block (i := 2) ht14 rfl
      have u3 : w14.cell? ⟨w.heap.size, 3, none⟩ = some (.string ⟨#[]⟩) := cell_of_block (i := 3) ht14 rfl
      have u4 : w14.cell? ⟨w.heap.size, 4, none⟩ = some (.int .i64 0) := cell_of_block (i := 4) ht14 rfl
      have u5 : w14.cell? ⟨w.heap.size, 5, none⟩ = some (.int .i64 0) := cell_of_block (i := 5) ht14 rfl
      have u6 : w14.cell? ⟨w.heap.size, 6, none⟩ = some (.int .i64 0) := cell_of_block (i := 6) ht14 rfl
      have u7 : w14.cell? ⟨w.heap.size, 7, none⟩ = some (.string ⟨#[]⟩) := cell_of_block (i := 7) ht14 rfl
      have v0 : w14.cell? ⟨mb, 0, none⟩ = some (.int .i64 k1) := cell_of_block (i := 0) hm14 rfl
      have v1 : w14.cell? ⟨mb, 1, none⟩ = some (.int .i64 k2) := cell_of_block (i := 1) hm14 rfl
      have v2 : w14.cell? ⟨mb, 2, none⟩ = some (.int .i64 k3) := cell_of_block (i := 2) hm14 rfl
      have v3 : w14.cell? ⟨mb, 3, none⟩ = some (.string k4) := cell_of_block (i := 3) hm14 rfl
      have v4 : w14.cell? ⟨mb, 4, none⟩ = some (.int .i64 k5) := cell_of_block (i := 4) hm14 rfl
      have v5 : w14.cell? ⟨mb, 5, none⟩ = some (.int .i64 k6) := cell_of_block (i := 5) hm14 rfl
      have v6 : w14.cell? ⟨mb, 6, none⟩ = some (.int .i64 k7) := cell_of_block (i := 6) hm14 rfl
      have v7 : w14.cell? ⟨mb, 7, none⟩ = some (.string k8) := cell_of_block (i := 7) hm14 rfl
      have hst := store8 ht14 rfl (.int .i64 k1) (.int .i64 k2) (.int .i64 k3) (.string k4) (.int .i64 k5) (.int .i64 k6) (.int .i64 k7) (.string k8)
      go_wp2_with fail
      obtain ⟨hst1, hst2⟩ := hst
      generalize (((((((w14.setCell ⟨w.heap.size, 0, none⟩ (.int .i64 k1)).setCell ⟨w.heap.size, 1, none⟩ (.int .i64 k2)).setCell ⟨w.heap.size, 2, none⟩ (.int .i64 k3)).setCell ⟨w.heap.size, 3, none⟩ (.string k4)).setCell ⟨w.heap.size, 4, none⟩ (.int .i64 k5)).setCell ⟨w.heap.size, 5, none⟩ (.int .i64 k6)).setCell ⟨w.heap.size, 6, none⟩ (.int .i64 k7)).setCell ⟨w.heap.size, 7, none⟩ (.string k8) = wF at *
      refine dec_end (M := ⟨k1, k2, k3, k4, k5, k6, k7, k8⟩) hst1 (hc014.trans hst2 (S'' := fun k => w.heap.size ≤ k) (fun _ _ x => x.elim) (fun i _ x => by omega)) rfl ?_ ?_ ?_ (by rfl) <;> rfl
end Go.Proofs.Ytkoopagjjmdodaa
