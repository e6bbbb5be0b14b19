/-
  decoder.entry: the walk.
-/
import Derived.Test.YtaacafdlklnegaaTiky
import Derived.Test.YtaacafdlklnegaaLater
import Derived.Deep.RegionLaw
namespace Go.Proofs.Ytaacafdlklnegaa
open Go.RowKit
set_option linter.unusedVariables false

theorem RdS.alloc {w : World} {b : Nat} {s : ByteArray} {r : RS} (h : RdS w b s r) (o : Obj) : RdS (w.alloc o) b s r := h.keep (Chg.alloc (fun _ => False) w o) (fun x => x)
theorem RdS.drew {w : World} {b : Nat} {s : ByteArray} {r : RS} (h : RdS w b s r) : RdS w.drew b s r := h
/-- What entry answers. -/
def DecE (s : ByteArray) (most : Int) (r : RS) (w : World) (b : Nat) (e : Ending) (w' : World) : Prop :=
  ∃ vp, e = .returned (.agg #[.string (decE s most r).1.page, .int .i64 (decE s most r).1.number, .string (decE s most r).1.request, vp, .int .i64 (decE s most r).1.acked, .bool (decE s most r).1.ended, .bool (decE s most r).1.closed]) ∧
    RdS w' b s (decE s most r).2 ∧ RowAt w' 9 1 vp (decE s most r).1.pieces.length ((decE s most r).1.pieces.map Value.string) ∧ (∀ k, vp.ownBlock = some k → w.heap.size ≤ k) ∧ Chg (· = b) w w'
/-- While the pieces are read. -/
structure DInv (s : ByteArray) (w1 wr : World) (b mb : Nat) (r : RS) (p q : ByteArray) (n : Int) (ls : List ByteArray) (vs : Value) : Prop where
  rd : RdS wr b s r
  box : wr.heap[mb]? = some (.cells #[.string p, .int .i64 n, .string q, vs, .int .i64 0, .bool false, .bool false] 69 (0, 0))
  row : RowAt wr 9 1 vs ls.length (ls.map Value.string)
  own : ∀ k, vs.ownBlock = some k → w1.heap.size ≤ k ∧ k ≠ mb
  lo : w1.heap.size ≤ mb
  bl : b < w1.heap.size
  chg : Chg (· = b) w1 wr
theorem DInv.call {s : ByteArray} {w1 wr wz : World} {b mb : Nat} {r r' : RS} {p q : ByteArray} {n : Int} {ls : List ByteArray} {vs : Value} (h : DInv s w1 wr b mb r p q n ls vs) (hz : RdS wz b s r') (hc : Chg (· = b) wr wz) : DInv s w1 wz b mb r' p q n ls vs :=
  ⟨hz, hc.keep h.box (fun e => by have := h.lo; have := h.bl; have e' : mb = b := e; omega), h.row.chg hc (fun k hk e => by have := (h.own k hk).1; have := h.bl; have e' : k = b := e; omega), h.own, h.lo, h.bl, h.chg.trans' hc⟩
theorem DInv.push {s : ByteArray} {w1 wr w2 w3 : World} {b mb : Nat} {r : RS} {p q : ByteArray} {n : Int} {ls : List ByteArray} {vs v3 : Value} {x : ByteArray} (h : DInv s w1 wr b mb r p q n ls vs) (hc : Chg (fun _ => False) wr w2)
    (row3 : RowAt w3 9 1 v3 (ls.length + 1) (ls.map Value.string ++ [.string x])) (hch : Chg (fun k => vs.ownBlock = some k) w2 w3) (hold : ∀ k, v3.ownBlock = some k → vs.ownBlock = some k ∨ w2.heap.size ≤ k) :
    DInv s w1 (w3.setCell ⟨mb, 3, none⟩ v3) b mb r p q n (ls ++ [x]) v3 := by
  have hmb := lt_of_block h.box
  have hsz := hc.size
  have hs1 := h.chg.size
  have hown : ∀ k, v3.ownBlock = some k → w1.heap.size ≤ k ∧ k ≠ mb := fun k hk => by
    rcases hold k hk with e | e
    · exact h.own k e
    · omega
  have hb : w3.heap[mb]? = _ := hch.keep (hc.keep h.box (fun x => x)) (fun e => (h.own mb e).2 rfl)
  have hs := Chg.setCell w3 ⟨mb, 3, none⟩ v3
  refine ⟨(h.rd.keep hc (fun x => x)).keep hch (fun e => by have := (h.own b e).1; have := h.bl; omega) |>.keep hs (by show ¬ b = mb; have := h.lo; have := h.bl; omega), ?_, ?_, hown, h.lo, h.bl, ?_⟩
  · rw [setCell_block _ hb]; simp
  · have := row3.chg hs (fun k hk => by show ¬ k = mb; exact (hown k hk).2)
    simpa using this
  · refine ((h.chg.trans hc (S'' := (· = b)) (fun _ _ x => x) (fun _ _ x => x.elim)).trans hch (S'' := (· = b)) (fun _ _ x => x) (fun i hi e => by have := (h.own i e).1; omega)).trans hs (fun _ _ x => x) (fun i hi e => ?_)
    have e' : i = mb := e
    have := h.lo
    omega
/-- All is read; the request's block holds it. -/
structure DFin (s : ByteArray) (w1 wx : World) (b mb n0 : Nat) (r : RS) (p q : ByteArray) (n k1 : Int) (e1 d1 : Bool) (ls : List ByteArray) (vs : Value) : Prop where
  rd : RdS wx b s r
  box : wx.heap[mb]? = some (.cells #[.string p, .int .i64 n, .string q, vs, .int .i64 k1, .bool e1, .bool d1] 69 (0, 0))
  old : wx.heap[n0]? = some (.cells #[.string ⟨#[]⟩, .int .i64 0, .string ⟨#[]⟩, .slice none 0 0, .int .i64 0, .bool false, .bool false] 69)
  row : RowAt wx 9 1 vs ls.length (ls.map Value.string)
  own : ∀ k, vs.ownBlock = some k → w1.heap.size ≤ k
  chg : Chg (· = b) w1 wx
theorem DInv.fin {s : ByteArray} {w1 wr : World} {b mb n0 : Nat} {r : RS} {p q : ByteArray} {n k1 : Int} {e1 d1 : Bool} {ls : List ByteArray} {vs : Value} (h : DInv s w1 wr b mb r p q n ls vs) (hz : w1.heap[n0]? = some (.cells #[.string ⟨#[]⟩, .int .i64 0, .string ⟨#[]⟩, .slice none 0 0, .int .i64 0, .bool false, .bool false] 69)) (hb : b < n0) :
    DFin s w1 (((wr.setCell ⟨mb, 4, none⟩ (.int .i64 k1)).setCell ⟨mb, 5, none⟩ (.bool e1)).setCell ⟨mb, 6, none⟩ (.bool d1)) b mb n0 r p q n k1 e1 d1 ls vs := by
  have hn0 := lt_of_block hz
  have hlo := h.lo
  have hne : n0 ≠ mb := by omega
  have hc : Chg (· = mb) wr (((wr.setCell ⟨mb, 4, none⟩ (.int .i64 k1)).setCell ⟨mb, 5, none⟩ (.bool e1)).setCell ⟨mb, 6, none⟩ (.bool d1)) := ((Chg.setCell wr ⟨mb, 4, none⟩ _).trans' (Chg.setCell _ ⟨mb, 5, none⟩ _)).trans' (Chg.setCell _ ⟨mb, 6, none⟩ _)
  have hz1 := h.chg.keep hz (fun e => by have e' : n0 = b := e; omega)
  refine ⟨h.rd.keep hc (fun e => by have := h.bl; omega), ?_, hc.keep hz1 hne, h.row.chg hc (fun k hk => (h.own k hk).2), fun k hk => (h.own k hk).1, h.chg.trans hc (fun _ _ x => x) (fun i hi e => by have e' : i = mb := e; omega)⟩
  rw [setCell_block _ (setCell_block _ (setCell_block _ h.box))]
  simp
/-- The end: the request that it returns lies in the first block that it made. -/
theorem DFin.ends {s : ByteArray} {w w1 wx : World} {b mb n0 : Nat} {r r0 : RS} {most : Int} {p q : ByteArray} {n k1 : Int} {e1 d1 : Bool} {ls : List ByteArray} {vs : Value} {a : Act} (h : DFin s w1 wx b mb n0 r p q n k1 e1 d1 ls vs) (hD : decE s most r0 = (⟨p, n, q, ls, k1, e1, d1⟩, r))
    (hw : Chg (fun _ => False) w w1) (hn : n0 = w.heap.size) (hb : b < n0) (hn1 : n0 < w1.heap.size) (h4 : a.tmps[4]? = some (.pointer (some ⟨n0, 0, none⟩))) (hd : a.defers = []) :
    bodyPost Try.prog Try.f53 (DecE s most r0 w b) .ret a (((((((wx.setCell ⟨n0, 0, none⟩ (.string p)).setCell ⟨n0, 1, none⟩ (.int .i64 n)).setCell ⟨n0, 2, none⟩ (.string q)).setCell ⟨n0, 3, none⟩ vs).setCell ⟨n0, 4, none⟩ (.int .i64 k1)).setCell ⟨n0, 5, none⟩ (.bool e1)).setCell ⟨n0, 6, none⟩ (.bool d1)) := by
  have hc : Chg (· = n0) wx (((((((wx.setCell ⟨n0, 0, none⟩ (.string p)).setCell ⟨n0, 1, none⟩ (.int .i64 n)).setCell ⟨n0, 2, none⟩ (.string q)).setCell ⟨n0, 3, none⟩ vs).setCell ⟨n0, 4, none⟩ (.int .i64 k1)).setCell ⟨n0, 5, none⟩ (.bool e1)).setCell ⟨n0, 6, none⟩ (.bool d1)) :=
    ((((((Chg.setCell wx ⟨n0, 0, none⟩ _).trans' (Chg.setCell _ ⟨n0, 1, none⟩ _)).trans' (Chg.setCell _ ⟨n0, 2, none⟩ _)).trans' (Chg.setCell _ ⟨n0, 3, none⟩ _)).trans' (Chg.setCell _ ⟨n0, 4, none⟩ _)).trans' (Chg.setCell _ ⟨n0, 5, none⟩ _)).trans' (Chg.setCell _ ⟨n0, 6, none⟩ _)
  have hbx : (((((((wx.setCell ⟨n0, 0, none⟩ (.string p)).setCell ⟨n0, 1, none⟩ (.int .i64 n)).setCell ⟨n0, 2, none⟩ (.string q)).setCell ⟨n0, 3, none⟩ vs).setCell ⟨n0, 4, none⟩ (.int .i64 k1)).setCell ⟨n0, 5, none⟩ (.bool e1)).setCell ⟨n0, 6, none⟩ (.bool d1)).heap[n0]? = some (.cells #[.string p, .int .i64 n, .string q, vs, .int .i64 k1, .bool e1, .bool d1] 69 (0, 0)) := by
    rw [setCell_block _ (setCell_block _ (setCell_block _ (setCell_block _ (setCell_block _ (setCell_block _ (setCell_block _ h.old))))))]
    simp
  obtain ⟨pv, cv, rfl, -, -⟩ := h.row.slice
  refine bodyPost_ret (v := .agg #[.string p, .int .i64 n, .string q, .slice pv ls.length cv, .int .i64 k1, .bool e1, .bool d1]) ?_ hd ?_
  · have c0 := cell_of_block (i := 0) hbx rfl
    have c1 := cell_of_block (i := 1) hbx rfl
    have c2 := cell_of_block (i := 2) hbx rfl
    have c3 := cell_of_block (i := 3) hbx rfl
    have c4 := cell_of_block (i := 4) hbx rfl
    have c5 := cell_of_block (i := 5) hbx rfl
    have c6 := cell_of_block (i := 6) hbx rfl
    simp [results, Try.results53, go_sem, h4, c0, c1, c2, c3, c4, c5, c6]
  · unfold DecE
    rw [hD]
    have hsz := hw.size
    refine ⟨_, rfl, h.rd.keep hc (by show ¬ b = n0; omega), h.row.chg hc (fun k hk => by have := h.own k hk; show ¬ k = n0; omega), fun k hk => by have := h.own k hk; omega, ?_⟩
    exact ((hw.trans h.chg (S'' := (· = b)) (fun _ _ x => x.elim) (fun _ _ x => x)).trans hc (fun _ _ x => x) (fun i hi e => by have e' : i = n0 := e; omega))
/-- Behind the first three values. -/
structure DHead (s : ByteArray) (w1 wx : World) (b mb : Nat) (r : RS) (p q : ByteArray) (n : Int) : Prop where
  rd : RdS wx b s r
  box : wx.heap[mb]? = some (.cells #[.string p, .int .i64 n, .string q, .slice none 0 0, .int .i64 0, .bool false, .bool false] 69 (0, 0))
  lo : w1.heap.size ≤ mb
  chg : Chg (· = b) w1 wx

theorem DHead.made {s : ByteArray} {w1 W : World} {b : Nat} {r : RS} {p q : ByteArray} {n : Int} (hR : RdS W b s r) (hcc : Chg (· = b) w1 W) :
    DHead s w1 (W.alloc (.cells #[.string p, .int .i64 n, .string q, .slice none 0 0, .int .i64 0, .bool false, .bool false] 69)) b W.heap.size r p q n :=
  ⟨hR.alloc _, alloc_block W _, hcc.size, hcc.allocR _⟩
theorem DHead.stored {s : ByteArray} {w1 W : World} {b mb : Nat} {r : RS} {p q : ByteArray} {n : Int} (hb : W.heap[mb]? = some (.cells #[.string ⟨#[]⟩, .int .i64 0, .string ⟨#[]⟩, .slice none 0 0, .int .i64 0, .bool false, .bool false] 69)) (hne : ¬ mb = b) (hlo : w1.heap.size ≤ mb) (hR : RdS W b s r) (hcc : Chg (· = b) w1 W) :
    DHead s w1 (((((((W.setCell ⟨mb, 0, none⟩ (.string p)).setCell ⟨mb, 1, none⟩ (.int .i64 n)).setCell ⟨mb, 2, none⟩ (.string q)).setCell ⟨mb, 3, none⟩ (.slice none 0 0)).setCell ⟨mb, 4, none⟩ (.int .i64 0)).setCell ⟨mb, 5, none⟩ (.bool false)).setCell ⟨mb, 6, none⟩ (.bool false)) b mb r p q n := by
  have hc : Chg (· = mb) W (((((((W.setCell ⟨mb, 0, none⟩ (.string p)).setCell ⟨mb, 1, none⟩ (.int .i64 n)).setCell ⟨mb, 2, none⟩ (.string q)).setCell ⟨mb, 3, none⟩ (.slice none 0 0)).setCell ⟨mb, 4, none⟩ (.int .i64 0)).setCell ⟨mb, 5, none⟩ (.bool false)).setCell ⟨mb, 6, none⟩ (.bool false)) :=
    ((((((Chg.setCell W ⟨mb, 0, none⟩ _).trans' (Chg.setCell _ ⟨mb, 1, none⟩ _)).trans' (Chg.setCell _ ⟨mb, 2, none⟩ _)).trans' (Chg.setCell _ ⟨mb, 3, none⟩ _)).trans' (Chg.setCell _ ⟨mb, 4, none⟩ _)).trans' (Chg.setCell _ ⟨mb, 5, none⟩ _)).trans' (Chg.setCell _ ⟨mb, 6, none⟩ _)
  refine ⟨hR.keep hc (fun e => hne e.symm), ?_, hlo, hcc.trans hc (fun _ _ x => x) (fun i hi e => by subst e; omega)⟩
  rw [setCell_block _ (setCell_block _ (setCell_block _ (setCell_block _ (setCell_block _ (setCell_block _ (setCell_block _ hb))))))]
  simp

set_option maxHeartbeats 1600000 in
set_option maxRecDepth 100000 in
theorem decEntry_any (w : World) (b : Nat) (s : ByteArray) (r : RS) (most : Int) (hm : 0 ≤ most ∧ most ≤ 1000000000) (hs : s.size ≤ 1000000000) (h : RdS w b s r) :
    Calls Try.prog 53 #[.pointer (some ⟨b, 0, none⟩), .int .i64 most] w (DecE s most r w b) := by
  have hs' : s.size ≤ 140737488355328 := by omega
  obtain ⟨p, r1, h1⟩ : ∃ p r1, rT s r = (p, r1) := ⟨_, _, rfl⟩
  obtain ⟨n, r2, h2⟩ : ∃ n r2, rI s r1 = (n, r2) := ⟨_, _, rfl⟩
  obtain ⟨q, r3, h3⟩ : ∃ q r3, rT s r2 = (q, r3) := ⟨_, _, rfl⟩
  have HC1 : Hid (∀ W, RdS W b s r → Calls Try.prog 51 #[.pointer (some ⟨b, 0, none⟩)] W fun e w' => e = .returned (.string p) ∧ RdS w' b s r1 ∧ Chg (· = b) W w') := Lib.hid fun W hW => by have := readStr hW hs'; rw [h1] at this; exact this
  have HC2 : Hid (∀ W, RdS W b s r1 → Calls Try.prog 52 #[.pointer (some ⟨b, 0, none⟩)] W fun e w' => e = .returned (.int .i64 n) ∧ RdS w' b s r2 ∧ Chg (· = b) W w') := Lib.hid fun W hW => by have := readInt hW hs'; rw [h2] at this; exact this
  have HC3 : Hid (∀ W, RdS W b s r2 → Calls Try.prog 51 #[.pointer (some ⟨b, 0, none⟩)] W fun e w' => e = .returned (.string q) ∧ RdS w' b s r3 ∧ Chg (· = b) W w') := Lib.hid fun W hW => by have := readStr hW hs'; rw [h3] at this; exact this
  have H1 := Lib.hid h1
  have H2 := Lib.hid h2
  have H3 := Lib.hid h3
  have HS := Lib.hid hs
  have HM := Lib.hid hm
  have hR0 := h.alloc (.cells #[.string ⟨#[]⟩, .int .i64 0, .string ⟨#[]⟩, .slice none 0 0, .int .i64 0, .bool false, .bool false] 69)
  have hz0 := alloc_block w (.cells #[.string ⟨#[]⟩, .int .i64 0, .string ⟨#[]⟩, .slice none 0 0, .int .i64 0, .bool false, .bool false] 69)
  have hcA := Chg.alloc (fun _ => False) w (.cells #[.string ⟨#[]⟩, .int .i64 0, .string ⟨#[]⟩, .slice none 0 0, .int .i64 0, .bool false, .bool false] 69)
  have HBL := Lib.hid (lt_of_block h)
  clear h1 h2 h3 hs hm hs' h
  go_enter Try.func53, Try.ntmps53
  go_upto_region 1 with fail
  generalize hn0 : w.heap.size = n0 at *
  have HN0 := Lib.hid hn0
  clear hn0
  generalize w.alloc (.cells #[.string ⟨#[]⟩, .int .i64 0, .string ⟨#[]⟩, .slice none 0 0, .int .i64 0, .bool false, .bool false] 69) = w1 at *
  go_cut [5] (fun u5 wx => ∃ mb, u5 = .pointer (some ⟨mb, 0, none⟩) ∧ DHead s w1 wx b mb r3 p q n)
  case first =>
    have hR := hR0.drew
    have hcc : Chg (· = b) w1 w1.drew := (Chg.refl _ w1).drewR
    clear hR0
    go_region_held3 (fun _ => True) (trivial) ((first | (go_at_call 51; refine (HC1.out _ hR).mono ?_; rintro e wz ⟨rfl, hz, hcz⟩; (first | (fail_if_success (have t1 := HBX)) | (have HB2 := Lib.hid (hcz.keep HBX.out HMB.out); clear HBX; have HBX := HB2; clear HB2; have m0 := cell_of_block (i := 0) HBX.out rfl; have m1 := cell_of_block (i := 1) HBX.out rfl; have m2 := cell_of_block (i := 2) HBX.out rfl; have m3 := cell_of_block (i := 3) HBX.out rfl; have m4 := cell_of_block (i := 4) HBX.out rfl; have m5 := cell_of_block (i := 5) HBX.out rfl; have m6 := cell_of_block (i := 6) HBX.out rfl; have fz := fun i => frozen_of_block (i := i) HBX.out)); have hcc2 := hcc.trans' hcz; clear hR hcc; have hR := hz; have hcc := hcc2; clear hz hcc2 hcz) | (go_at_call 51; refine (HC1.out _ (hR.alloc _)).mono ?_; rintro e wz ⟨rfl, hz, hcz⟩; have HMB := Lib.hid (show ¬ _ = b from fun e => absurd (lt_of_block hR) (by rw [← e]; exact Nat.lt_irrefl _)); have HBX := Lib.hid (hcz.keep (alloc_block _ _) HMB.out); (try rw [show w1.drew.heap.size = w1.heap.size from rfl] at HBX HMB); have HLO := Lib.hid hcc.size; have m0 := cell_of_block (i := 0) HBX.out rfl; have m1 := cell_of_block (i := 1) HBX.out rfl; have m2 := cell_of_block (i := 2) HBX.out rfl; have m3 := cell_of_block (i := 3) HBX.out rfl; have m4 := cell_of_block (i := 4) HBX.out rfl; have m5 := cell_of_block (i := 5) HBX.out rfl; have m6 := cell_of_block (i := 6) HBX.out rfl; have fz := fun i => frozen_of_block (i := i) HBX.out; have hcc2 := (hcc.allocR _).trans' hcz; clear hR hcc; have hR := hz; have hcc := hcc2; clear hz hcc2 hcz) | (go_at_call 52; refine (HC2.out _ hR).mono ?_; rintro e wz ⟨rfl, hz, hcz⟩; (first | (fail_if_success (have t1 := HBX)) | (have HB2 := Lib.hid (hcz.keep HBX.out HMB.out); clear HBX; have HBX := HB2; clear HB2; have m0 := cell_of_block (i := 0) HBX.out rfl; have m1 := cell_of_block (i := 1) HBX.out rfl; have m2 := cell_of_block (i := 2) HBX.out rfl; have m3 := cell_of_block (i := 3) HBX.out rfl; have m4 := cell_of_block (i := 4) HBX.out rfl; have m5 := cell_of_block (i := 5) HBX.out rfl; have m6 := cell_of_block (i := 6) HBX.out rfl; have fz := fun i => frozen_of_block (i := i) HBX.out)); have hcc2 := hcc.trans' hcz; clear hR hcc; have hR := hz; have hcc := hcc2; clear hz hcc2 hcz) | (go_at_call 52; refine (HC2.out _ (hR.alloc _)).mono ?_; rintro e wz ⟨rfl, hz, hcz⟩; have HMB := Lib.hid (show ¬ _ = b from fun e => absurd (lt_of_block hR) (by rw [← e]; exact Nat.lt_irrefl _)); have HBX := Lib.hid (hcz.keep (alloc_block _ _) HMB.out); (try rw [show w1.drew.heap.size = w1.heap.size from rfl] at HBX HMB); have HLO := Lib.hid hcc.size; have m0 := cell_of_block (i := 0) HBX.out rfl; have m1 := cell_of_block (i := 1) HBX.out rfl; have m2 := cell_of_block (i := 2) HBX.out rfl; have m3 := cell_of_block (i := 3) HBX.out rfl; have m4 := cell_of_block (i := 4) HBX.out rfl; have m5 := cell_of_block (i := 5) HBX.out rfl; have m6 := cell_of_block (i := 6) HBX.out rfl; have fz := fun i => frozen_of_block (i := i) HBX.out; have hcc2 := (hcc.allocR _).trans' hcz; clear hR hcc; have hR := hz; have hcc := hcc2; clear hz hcc2 hcz) | (go_at_call 51; refine (HC3.out _ hR).mono ?_; rintro e wz ⟨rfl, hz, hcz⟩; (first | (fail_if_success (have t1 := HBX)) | (have HB2 := Lib.hid (hcz.keep HBX.out HMB.out); clear HBX; have HBX := HB2; clear HB2; have m0 := cell_of_block (i := 0) HBX.out rfl; have m1 := cell_of_block (i := 1) HBX.out rfl; have m2 := cell_of_block (i := 2) HBX.out rfl; have m3 := cell_of_block (i := 3) HBX.out rfl; have m4 := cell_of_block (i := 4) HBX.out rfl; have m5 := cell_of_block (i := 5) HBX.out rfl; have m6 := cell_of_block (i := 6) HBX.out rfl; have fz := fun i => frozen_of_block (i := i) HBX.out)); have hcc2 := hcc.trans' hcz; clear hR hcc; have hR := hz; have hcc := hcc2; clear hz hcc2 hcz) | (go_at_call 51; refine (HC3.out _ (hR.alloc _)).mono ?_; rintro e wz ⟨rfl, hz, hcz⟩; have HMB := Lib.hid (show ¬ _ = b from fun e => absurd (lt_of_block hR) (by rw [← e]; exact Nat.lt_irrefl _)); have HBX := Lib.hid (hcz.keep (alloc_block _ _) HMB.out); (try rw [show w1.drew.heap.size = w1.heap.size from rfl] at HBX HMB); have HLO := Lib.hid hcc.size; have m0 := cell_of_block (i := 0) HBX.out rfl; have m1 := cell_of_block (i := 1) HBX.out rfl; have m2 := cell_of_block (i := 2) HBX.out rfl; have m3 := cell_of_block (i := 3) HBX.out rfl; have m4 := cell_of_block (i := 4) HBX.out rfl; have m5 := cell_of_block (i := 5) HBX.out rfl; have m6 := cell_of_block (i := 6) HBX.out rfl; have fz := fun i => frozen_of_block (i := i) HBX.out; have hcc2 := (hcc.allocR _).trans' hcz; clear hR hcc; have hR := hz; have hcc := hcc2; clear hz hcc2 hcz)))
    all_goals (
      go_wp2_with fail
      go_meet
      first
        | (have HBY := HBX; refine ⟨_, rfl, ?_⟩; refine DHead.stored ?_ ?_ ?_ hR hcc; exact HBX.out; exact HMB.out; exact HLO.out)
        | (refine ⟨_, rfl, ?_⟩; exact DHead.made hR hcc))
  case rest =>
    obtain ⟨mb, rfl, HD⟩ := hcut
    have hbl := lt_of_block hR0
    have hs1 : w1.heap.size ≤ mb := HD.lo
    obtain ⟨cn, r4, h4⟩ : ∃ cn r4, rN s most r3 = (cn, r4) := ⟨_, _, rfl⟩
    have hcn : (cn : Int) ≤ most := by have := rN_le s most r3 HM.out.1; rw [h4] at this; exact this
    have HC4 : Hid (∀ W, RdS W b s r3 → Calls Try.prog 50 #[.pointer (some ⟨b, 0, none⟩), .int .i64 most] W fun e w' => e = .returned (.int .i64 cn) ∧ RdS w' b s r4 ∧ Chg (· = b) W w') := Lib.hid fun W hW => by
      have := readCnt hW (by have := HS.out; omega) most (by have := HM.out; omega) (by have := HM.out; omega)
      rw [h4] at this; exact this
    have H4 := Lib.hid h4
    have HCN : Hid (cn ≤ 1000000000) := Lib.hid (by have := HM.out; omega)
    have HBL1 := Lib.hid hbl
    have HI : DInv s w1 wc b mb r3 p q n [] (.slice none 0 0) := ⟨HD.rd, HD.box, RowAt.nil _ _ _, by simp [Value.ownBlock], hs1, hbl, HD.chg⟩
    clear h4 hcn hbl hs1 hR0 HD HC1 HC2 HC3
    go_wp2_with fail
    refine (HC4.out _ HI.rd).mono ?_
    rintro e w2 ⟨rfl, hz, hcz⟩
    have HI2 := HI.call hz hcz
    clear HI hz hcz
    go_upto_block 0 with fail
    go_cut [6] (fun u6 wx => ∃ vs, DInv s w1 wx b mb (rMany (rT s) cn r4).2 p q n (rMany (rT s) cn r4).1 vs)
    case first =>
      go_wp2_with fail
      go_loopw [6] (fun u6 wr => ∃ (m : Nat) (r' : RS) (ls : List ByteArray) (pa : Option Addr) (na ca : Nat), u6 = .int .i64 m ∧ ls.length + m ≤ cn ∧ DInv s w1 wr b mb r' p q n ls (.slice pa na ca) ∧ Hid (rMany (rT s) cn r4 = (ls ++ (rMany (rT s) m r').1, (rMany (rT s) m r').2))) (fun u6 _ => (intOf u6).toNat)
      case atStart => exact ⟨cn, r4, [], none, 0, 0, rfl, by simp, HI2, Lib.hid rfl⟩
      case round =>
        obtain ⟨m, r', ls, pa, na, ca, rfl, hlm, HI, HF⟩ := hrel
        clear HI2
        have e2 := HI.rd.err
        by_cases hm0 : m = 0
        · subst hm0
          go_wp2_with fail
          go_meet
          have hf := HF.out
          rw [rMany_zero, List.append_nil] at hf
          exact ⟨_, by rw [hf]; exact HI⟩
        · have hd0 : decide ((0 : Int) < (m : Int)) = true := by simp; omega
          have hd1 : 0 < m := by omega
          by_cases hr0 : r'.2 = 0
          · rw [hr0] at e2
            obtain ⟨m', rfl⟩ : ∃ m', m = m' + 1 := ⟨m - 1, by omega⟩
            obtain ⟨x, rx, hx⟩ : ∃ x rx, rT s r' = (x, rx) := ⟨_, _, rfl⟩
            have HCX : Hid (∀ W, RdS W b s r' → Calls Try.prog 51 #[.pointer (some ⟨b, 0, none⟩)] W fun e w' => e = .returned (.string x) ∧ RdS w' b s rx ∧ Chg (· = b) W w') := Lib.hid fun W hW => by have := readStr hW (by have := HS.out; omega); rw [hx] at this; exact this
            have HFX : Hid (rMany (rT s) cn r4 = ((ls ++ [x]) ++ (rMany (rT s) m' rx).1, (rMany (rT s) m' rx).2)) := Lib.hid (by
              rw [HF.out, rMany_succ _ _ _ hr0, hx]
              simp)
            have HLM : Hid (ls.length + 1 + m' ≤ cn) := Lib.hid (by omega)
            have HLE := Lib.hid elem_str
            have c3 : wr.cell? ⟨mb, 3, none⟩ = some (.slice pa na ca) := cell_of_block (i := 3) HI.box rfl
            have wm : IntKind.i64.wrap (m' : Int) = (m' : Int) := IntWalk.i64_in _ (by have := HCN.out; omega)
            have HID : Hid (DInv s w1 wr.drew b mb r' p q n ls (.slice pa na ca)) := Lib.hid ⟨HI.rd, HI.box, HI.row.drew, HI.own, HI.lo, HI.bl, HI.chg.drewR⟩
            clear hx hr0 hlm hm0 hd1 HF
            go_upto_region 5 with fail
            go_region_law ((first
              | (go_simp; go_at_call 51; refine (HCX.out _ HID.out.rd).mono ?_; rintro e wz ⟨rfl, hz, hcz⟩; have HI3 := HID.out.call hz hcz; have c3z := cell_of_block (i := 3) HI3.box rfl; have c3A := (Chg.alloc (fun _ => False) wz (.cells #[.string x] 9)).cell c3z; have hrowA := HI3.row.alloc (.cells #[.string x] 9))
              | (refine step_append_elem (by rfl) _ _ _ (by rfl) 9 1 16 Try.underlying25 HLE.out (by decide) _ ls.length (ls.map Value.string) (by rfl) hrowA [.string x] rfl wz.heap.size 9 (0, 0) (by rfl) (alloc_block wz _) (by simp [Value.oneCell']) (by have := HLM.out; have := HCN.out; unfold maxLen; omega) (by have := HLM.out; have := HCN.out; omega) ?_; intro a3 n3 cc3 w3 hrow3 hchg3 hold3; have hb3 := hchg3.keep (alloc_old _ HI3.box) (fun e => (HI3.own mb e).2 rfl); have g3 := cell_of_block (i := 3) hb3 rfl; have f3 := frozen_of_block (i := 3) hb3)))
            all_goals (
              have HIP := HI3.push (Chg.alloc (fun _ => False) wz _) hrow3 hchg3 hold3
              have HIQ := Lib.hid HIP
              clear HIP hrow3 hchg3 hold3 hb3 hrowA c3z c3A c3 HI3 hz hcz HI HID e2
              go_wp2_with fail
              go_roundw
              case rel => exact ⟨m', rx, ls ++ [x], _, _, _, by go_num, by have := HLM.out; rw [List.length_append]; simpa using this, HIQ.out, HFX⟩
              case measure => simp [intOf])
          · have hq : (r'.2 == 0) = false := by simpa using hr0
            have HR0 := Lib.hid hr0
            clear hr0
            go_wp2_with fail
            go_meet
            have hf := HF.out
            rw [rMany_err _ _ _ HR0.out, List.append_nil] at hf
            exact ⟨_, by rw [hf]; exact HI⟩
    case rest =>
      obtain ⟨vs, HI⟩ := hcut
      obtain ⟨pv, cv, rfl, -, -⟩ := HI.row.slice
      obtain ⟨ls, r5, h5⟩ : ∃ ls r5, rMany (rT s) cn r4 = (ls, r5) := ⟨_, _, rfl⟩
      obtain ⟨k1, r6, h6⟩ : ∃ k1 r6, rI s r5 = (k1, r6) := ⟨_, _, rfl⟩
      obtain ⟨e1, r7, h7⟩ : ∃ e1 r7, rO s r6 = (e1, r7) := ⟨_, _, rfl⟩
      obtain ⟨d1, r8, h8⟩ : ∃ d1 r8, rO s r7 = (d1, r8) := ⟨_, _, rfl⟩
      have hD : decE s most r = (⟨p, n, q, ls, k1, e1, d1⟩, r8) := by
        simp only [decE, H1.out, H2.out, H3.out, H4.out, h5, h6, h7, h8]
      rw [h5] at HI
      dsimp only at HI
      have HS2 : Hid (s.size ≤ 140737488355328) := Lib.hid (by have := HS.out; omega)
      have HC6 : Hid (∀ W, RdS W b s r5 → Calls Try.prog 52 #[.pointer (some ⟨b, 0, none⟩)] W fun e w' => e = .returned (.int .i64 k1) ∧ RdS w' b s r6 ∧ Chg (· = b) W w') := Lib.hid fun W hW => by have := readInt hW HS2.out; rw [h6] at this; exact this
      have HC7 : Hid (∀ W, RdS W b s r6 → Calls Try.prog 63 #[.pointer (some ⟨b, 0, none⟩)] W fun e w' => e = .returned (.bool e1) ∧ RdS w' b s r7 ∧ Chg (· = b) W w') := Lib.hid fun W hW => by have := readBool hW HS2.out; rw [h7] at this; exact this
      have HC8 : Hid (∀ W, RdS W b s r7 → Calls Try.prog 63 #[.pointer (some ⟨b, 0, none⟩)] W fun e w' => e = .returned (.bool d1) ∧ RdS w' b s r8 ∧ Chg (· = b) W w') := Lib.hid fun W hW => by have := readBool hW HS2.out; rw [h8] at this; exact this
      have HDE := Lib.hid hD
      have HID : DInv s w1 wc.drew b mb r5 p q n ls (.slice pv ls.length cv) := ⟨HI.rd, HI.box, HI.row.drew, HI.own, HI.lo, HI.bl, HI.chg.drewR⟩
      clear h5 h6 h7 h8 hD HI2 HI HC4
      go_upto_region 6 with fail
      go_region_with ((first
        | (go_at_call 52; refine (HC6.out _ HID.rd).mono ?_; rintro e wz ⟨rfl, hz, hcz⟩; have HI2 := HID.call hz hcz; clear HID hz hcz; have HID := HI2; clear HI2)
        | (go_at_call 63; refine (HC7.out _ HID.rd).mono ?_; rintro e wz ⟨rfl, hz, hcz⟩; have HI2 := HID.call hz hcz; clear HID hz hcz; have HID := HI2; clear HI2)
        | (go_at_call 63; refine (HC8.out _ HID.rd).mono ?_; rintro e wz ⟨rfl, hz, hcz⟩; have HI2 := HID.call hz hcz; clear HID hz hcz; have HID := HI2; clear HI2; have g4 := cell_of_block (i := 4) HID.box rfl; have g5 := cell_of_block (i := 5) HID.box rfl; have g6 := cell_of_block (i := 6) HID.box rfl; have fz := fun i => frozen_of_block (i := i) HID.box)))
      have hz1 : w1.heap.size = w1.heap.size := rfl
      have hfin : DFin s w1 (((wz.setCell ⟨mb, 4, none⟩ (.int .i64 k1)).setCell ⟨mb, 5, none⟩ (.bool e1)).setCell ⟨mb, 6, none⟩ (.bool d1)) b mb n0 r8 p q n k1 e1 d1 ls (.slice pv ls.length cv) := HID.fin hz0 HBL.out
      have HN1 := Lib.hid (lt_of_block hz0)
      go_upto_region 7 with fail
      clear HID hz0 g4 g5 g6 fz hz1
      generalize ((wz.setCell ⟨mb, 4, none⟩ (.int .i64 k1)).setCell ⟨mb, 5, none⟩ (.bool e1)).setCell ⟨mb, 6, none⟩ (.bool d1) = w9 at *
      have c0 := fun i => frozen_of_block (i := i) hfin.old
      have x0 := cell_of_block (i := 0) hfin.old rfl
      have x1 := cell_of_block (i := 1) hfin.old rfl
      have x2 := cell_of_block (i := 2) hfin.old rfl
      have x3 := cell_of_block (i := 3) hfin.old rfl
      have x4 := cell_of_block (i := 4) hfin.old rfl
      have x5 := cell_of_block (i := 5) hfin.old rfl
      have x6 := cell_of_block (i := 6) hfin.old rfl
      have y0 := cell_of_block (i := 0) hfin.box rfl
      have y1 := cell_of_block (i := 1) hfin.box rfl
      have y2 := cell_of_block (i := 2) hfin.box rfl
      have y3 := cell_of_block (i := 3) hfin.box rfl
      have y4 := cell_of_block (i := 4) hfin.box rfl
      have y5 := cell_of_block (i := 5) hfin.box rfl
      have y6 := cell_of_block (i := 6) hfin.box rfl
      have HFI := Lib.hid hfin
      have HHC := Lib.hid hcA
      clear hfin hcA
      go_wp2_with fail
      refine HFI.out.ends HDE.out HHC.out HN0.out.symm HBL.out HN1.out ?_ ?_
      · rfl
      · rfl
end Go.Proofs.Ytaacafdlklnegaa
