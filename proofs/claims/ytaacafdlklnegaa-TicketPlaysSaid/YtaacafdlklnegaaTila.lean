/-
  Decode: a state out of bytes (what holds while it is read).
-/
import Derived.Test.YtaacafdlklnegaaTikz
import Derived.Test.YtaacafdlklnegaaTikw
namespace Go.Proofs.Ytaacafdlklnegaa
open Go.RowKit
set_option linter.unusedVariables false

/-- A world without its newest blocks. -/
def cutAt (w : World) (n : Nat) : World := { w with heap := w.heap.extract 0 n }
theorem cutAt_size {w : World} {n : Nat} (h : n ≤ w.heap.size) : (cutAt w n).heap.size = n := by
  show (w.heap.extract 0 n).size = n
  simp; omega
theorem cutAt_get {w : World} {n k : Nat} (h : n ≤ w.heap.size) (hk : k < n) : (cutAt w n).heap[k]? = w.heap[k]? := by
  show (w.heap.extract 0 n)[k]? = _
  rw [Array.getElem?_extract]
  simp; omega
theorem Chg.cutAt {w : World} {n : Nat} (h : n ≤ w.heap.size) : Chg (fun _ => False) (Go.Proofs.Ytaacafdlklnegaa.cutAt w n) w :=
  ⟨rfl, rfl, rfl, by rw [cutAt_size h]; exact h, fun k hk _ => by rw [cutAt_size h] at hk; exact (cutAt_get h hk).symm⟩
theorem Here.cutAt {α : Type} {A : Rep α} {wr w' : World} {b o rb : Nat} {a : α} {F : List Nat} (h : Here A wr b o a F) (hc : Chg (· = rb) wr w') (hb : b ≠ rb) (hF : ∀ k ∈ F, k ≠ rb) : Here A (Go.Proofs.Ytaacafdlklnegaa.cutAt w' wr.heap.size) b o a F := by
  have hlt := h.lt
  have hk : ∀ k, k < wr.heap.size → k ≠ rb → ∀ ob, wr.heap[k]? = some ob → (Go.Proofs.Ytaacafdlklnegaa.cutAt w' wr.heap.size).heap[k]? = some ob := fun k h1 h2 ob ho => by
    rw [cutAt_get hc.size h1]
    exact hc.keep ho h2
  obtain ⟨c, T, h1, h2⟩ := h.box
  exact ⟨⟨c, T, hk b hlt.1 hb _ h1, A.keep h2 fun k hm ob ho => hk k (hlt.2 k hm) (hF k hm) ob ho⟩, h.nb, h.nd⟩
/-- While a state is read. -/
structure GInv (s : ByteArray) (w wr : World) (rb sb n0 : Nat) (r : RS) (st : State) (F : List Nat) : Prop where
  rd : RdS wr rb s r
  st : Here stateR wr sb 0 st F
  los : ∀ k ∈ F, w.heap.size ≤ k ∧ k ≠ rb ∧ k ≠ n0
  n1 : w.heap.size ≤ n0
  n2 : n0 < rb
  n3 : rb < sb
  old : wr.heap[n0]? = some (.cells #[.slice none 0 0, .slice none 0 0, .slice none 0 0] 27 (0, 0))
  chg : Chg (fun _ => False) w wr
section
variable {s : ByteArray} {w wr w' W : World} {rb sb n0 : Nat} {r r' : RS} {st st' : State} {F : List Nat}
theorem GInv.sbl (h : GInv s w wr rb sb n0 r st F) : sb < wr.heap.size := h.st.lt.1
theorem GInv.call (h : GInv s w wr rb sb n0 r st F) (hz : RdS w' rb s r') (hc : Chg (· = rb) wr w') : GInv s w w' rb sb n0 r' st F :=
  ⟨hz, h.st.chg hc (fun e => by have := h.n3; have e' : sb = rb := e; omega) (fun k hk e => (h.los k hk).2.1 e), h.los, h.n1, h.n2, h.n3, hc.keep h.old (fun e => by have := h.n2; have e' : n0 = rb := e; omega),
    h.chg.trans hc (fun _ _ x => x) (fun i hi e => by have := h.n1; have := h.n2; have e' : i = rb := e; omega)⟩
theorem GInv.still (h : GInv s w wr rb sb n0 r st F) (hc : Chg (fun _ => False) wr w') : GInv s w w' rb sb n0 r st F :=
  ⟨h.rd.keep hc (fun x => x), h.st.still hc, h.los, h.n1, h.n2, h.n3, hc.keep h.old (fun x => x), h.chg.trans' hc⟩
theorem GInv.base (h : GInv s w wr rb sb n0 r st F) (hc : Chg (· = rb) wr w') : Here stateR (cutAt w' wr.heap.size) sb 0 st F :=
  h.st.cutAt hc (by have := h.n3; omega) (fun k hk => (h.los k hk).2.1)
theorem GInv.next (h : GInv s w wr rb sb n0 r st F) (hz : RdS w' rb s r') (hc : Chg (· = rb) wr w') (hp : Post stateR (cutAt w' wr.heap.size) sb 0 st' F W) : ∃ F', GInv s w W rb sb n0 r' st' F' := by
  obtain ⟨F', HH, hs⟩ := hp
  have hsz := hc.size
  have hcs := cutAt_size hsz
  have h1 := h.n1
  have h2 := h.n2
  have h3 := h.n3
  have h4 := h.sbl
  have hnot : ∀ k, k < wr.heap.size → k ≠ sb → k ∉ F → W.heap[k]? = w'.heap[k]? := fun k hk hb hF => by
    rw [hs.chg.block k (by rw [hcs]; exact hk) (by rintro (x | x); exact hb x; exact hF x), cutAt_get hsz hk]
  have hrF : rb ∉ F := fun x => (h.los rb x).2.1 rfl
  have hnF : n0 ∉ F := fun x => (h.los n0 x).2.2 rfl
  refine ⟨F', ?_, HH, fun k hk => ?_, h1, h2, h3, ?_, ?_⟩
  · show W.heap[rb]? = _
    rw [hnot rb (by omega) (by omega) hrF]; exact hz
  · rcases hs.new k hk with x | x
    · exact h.los k x
    · rw [hcs] at x; omega
  · rw [hnot n0 (by omega) (by omega) hnF]
    exact hc.keep h.old (fun e => by have e' : n0 = rb := e; omega)
  · have ho := h.chg
    refine ⟨hs.chg.os.trans (hc.os.trans ho.os), hs.chg.tape.trans (hc.tape.trans ho.tape), hs.chg.output.trans (hc.output.trans ho.output), ?_, fun k hk _ => ?_⟩
    · have h9 := hs.chg.size; rw [hcs] at h9; have := ho.size; omega
    · have hsw := ho.size
      rw [hnot k (by omega) (by omega) (fun x => by have := (h.los k x).1; omega), hc.block k (by omega) (fun e => by have e' : k = rb := e; omega), ho.block k hk (fun x => x)]
theorem GInv.post (h : GInv s w wr rb sb n0 r st F) (hp : Post stateR wr sb 0 st' F W) : ∃ F', GInv s w W rb sb n0 r st' F' := by
  obtain ⟨F', HH, hs⟩ := hp
  have h1 := h.n1
  have h2 := h.n2
  have h3 := h.n3
  have h4 := h.sbl
  have hsw := h.chg.size
  refine ⟨F', h.rd.keep hs.chg (by rintro (x | x); omega; exact (h.los rb x).2.1 rfl), HH, fun k hk => ?_, h1, h2, h3, hs.chg.keep h.old (by rintro (x | x); omega; exact (h.los n0 x).2.2 rfl), h.chg.trans hs.chg (fun _ _ x => x) (fun i hi x => ?_)⟩
  · rcases hs.new k hk with x | x
    · exact h.los k x
    · omega
  · rcases x with x | x
    · omega
    · have := (h.los i x).1; omega
end
/-- An owner out of bytes. -/
def decO (s : ByteArray) (r : RS) : Owner × RS :=
  let p := rT s r
  let n := rI s p.2
  (⟨p.1, n.1⟩, n.2)
/-- A state out of bytes. -/
def decS (s : ByteArray) : State × RS :=
  let c := rN s s.size (0, 0)
  let os := rMany (decO s) c.1 c.2
  let d := rN s s.size os.2
  let es := rMany (decE s s.size) d.1 d.2
  (⟨os.1, es.1, es.1.map (·.request)⟩, es.2)
structure Good (s : ByteArray) : Prop where
  err : (decS s).2.2 = 0
  all : (decS s).2.1 = s.size
  ok : AllOk (decS s).1
/-- What Decode answers. -/
def DecP (s : ByteArray) (w : World) (e : Ending) (w' : World) : Prop :=
  ∃ st er v0 v1 v2 F, e = .returned (.tuple #[.agg #[v0, v1, v2], .int .i64 er]) ∧ stateR.own w' [v0, v1, v2] st F ∧ F.Nodup ∧ (∀ k ∈ F, w.heap.size ≤ k) ∧ Chg (fun _ => False) w w' ∧
    ((Good s ∧ st = (decS s).1 ∧ er = 0) ∨ (¬ Good s ∧ st = newState ∧ er = 3))

theorem rT_size (s : ByteArray) (r : RS) : (rT s r).1.size ≤ s.size := by
  unfold rT rS
  have h := restOf_size s r.1
  split
  · split
    · simp
    · simp only [ByteArray.size_extract]; omega
  · simp
theorem rMany_all {α : Type} (f : RS → α × RS) (P : α → Prop) (h : ∀ r, P (f r).1) : ∀ (n : Nat) (r : RS), ∀ x ∈ (rMany f n r).1, P x
  | 0, r, x, hx => by simp [rMany] at hx
  | n + 1, r, x, hx => by
    rw [rMany] at hx
    split at hx
    · rcases List.mem_cons.1 hx with e | e
      · rw [e]; exact h r
      · exact rMany_all f P h n _ x e
    · simp at hx
theorem decS_pages (s : ByteArray) (hs : s.size ≤ 100000000) : PagesOk (decS s).1 := by
  refine ⟨fun x hx => ?_, fun x hx => ?_⟩
  · exact rMany_all (decO s) (fun x => x.page.size ≤ 9223372036854775807) (fun r => by have := rT_size s r; show (rT s r).1.size ≤ _; omega) _ _ x hx
  · exact rMany_all (decE s s.size) (fun x => x.page.size ≤ 9223372036854775807) (fun r => by have := rT_size s r; show (rT s r).1.size ≤ _; omega) _ _ x hx
theorem noState (w : World) : stateR.own w [.slice none 0 0, .slice none 0 0, .slice none 0 0] newState [] := newState_own w
theorem store3 {w : World} {b T : Nat} {a0 a1 a2 : Value} (h : w.heap[b]? = some (.cells #[a0, a1, a2] T (0, 0))) (v0 v1 v2 : Value) :
    (((w.setCell ⟨b, 0, none⟩ v0).setCell ⟨b, 1, none⟩ v1).setCell ⟨b, 2, none⟩ v2).heap[b]? = some (.cells #[v0, v1, v2] T (0, 0)) ∧
    Chg (· = b) w (((w.setCell ⟨b, 0, none⟩ v0).setCell ⟨b, 1, none⟩ v1).setCell ⟨b, 2, none⟩ v2) := by
  refine ⟨?_, ((Chg.setCell w ⟨b, 0, none⟩ v0).trans' (Chg.setCell _ ⟨b, 1, none⟩ v1)).trans' (Chg.setCell _ ⟨b, 2, none⟩ v2)⟩
  rw [setCell_block v2 (setCell_block v1 (setCell_block v0 h))]
  simp
/-- The end of Decode: the state that it returns lies in the first block that it made. -/
theorem dec_end {s : ByteArray} {w wx : World} {n0 : Nat} {a0 a1 a2 v0 v1 v2 : Value} {er : Int} {st : State} {F : List Nat} {a : Act} (hb : wx.heap[n0]? = some (.cells #[a0, a1, a2] 27 (0, 0))) (ho : stateR.own wx [v0, v1, v2] st F) (hF : F.Nodup) (hl : ∀ k ∈ F, w.heap.size ≤ k ∧ k ≠ n0)
    (hc : Chg (fun _ => False) w wx) (hn : w.heap.size ≤ n0) (h2 : a.tmps[2]? = some (.pointer (some ⟨n0, 0, none⟩))) (h3 : a.tmps[3]? = some (.int .i64 er)) (hd : a.defers = [])
    (hr : (Good s ∧ st = (decS s).1 ∧ er = 0) ∨ (¬ Good s ∧ st = newState ∧ er = 3)) :
    bodyPost Try.prog Try.f28 (DecP s w) .ret a (((wx.setCell ⟨n0, 0, none⟩ v0).setCell ⟨n0, 1, none⟩ v1).setCell ⟨n0, 2, none⟩ v2) := by
  obtain ⟨hbx, hch⟩ := store3 hb v0 v1 v2
  have ho2 := ho
  obtain ⟨_, _, _, F0, F1, F2, hv, r0, r1, r2, -⟩ := ho
  cases hv
  obtain ⟨xs0, Fs0, op0⟩ := Rep.opened r0
  obtain ⟨xs1, Fs1, op1⟩ := Rep.opened r1
  obtain ⟨xs2, Fs2, op2⟩ := Rep.opened r2
  obtain ⟨p0, e0, rfl, -, -⟩ := op0.val
  obtain ⟨p1, e1, rfl, -, -⟩ := op1.val
  obtain ⟨p2, e2, rfl, -, -⟩ := op2.val
  refine bodyPost_ret (v := .tuple #[.agg #[.slice p0 st.owners.length e0, .slice p1 st.entries.length e1, .slice p2 st.sent.length e2], .int .i64 er]) ?_ hd ?_
  · have c0 := cell_of_block (i := 0) hbx rfl
    have c1 := cell_of_block (i := 1) hbx rfl
    have c2 := cell_of_block (i := 2) hbx rfl
    simp [results, Try.results28, go_sem, h2, h3, c0, c1, c2]
  · exact ⟨st, er, _, _, _, F, rfl, stateR.chg ho2 hch (fun k hk => (hl k hk).2), hF, fun k hk => (hl k hk).1, hc.trans hch (fun _ _ x => x) (fun i hi e => by have e' : i = n0 := e; omega), hr⟩

set_option maxHeartbeats 3200000 in
set_option maxRecDepth 100000 in
theorem decode_any (s : ByteArray) (w : World) (hs : s.size ≤ 100000000) :
    Calls Try.prog 28 #[.string s] w (DecP s w) := by
  have hs2 : s.size ≤ 140737488355328 := by omega
  have hln : (s.size : Int) ≤ 9223372036854775807 := by omega
  obtain ⟨c1, r1, h1⟩ : ∃ c1 r1, rN s (s.size : Int) (0, 0) = (c1, r1) := ⟨_, _, rfl⟩
  have hc1 : (c1 : Int) ≤ s.size := by have := rN_le s (s.size : Int) (0, 0) (by omega); rw [h1] at this; exact this
  obtain ⟨os, r2, h2⟩ : ∃ os r2, rMany (decO s) c1 r1 = (os, r2) := ⟨_, _, rfl⟩
  have hos : os.length ≤ c1 := by have := rMany_len (decO s) c1 r1; rw [h2] at this; exact this
  obtain ⟨c2, r3, h3⟩ : ∃ c2 r3, rN s (s.size : Int) r2 = (c2, r3) := ⟨_, _, rfl⟩
  have hc2 : (c2 : Int) ≤ s.size := by have := rN_le s (s.size : Int) r2 (by omega); rw [h3] at this; exact this
  obtain ⟨es, r4, h4⟩ : ∃ es r4, rMany (decE s (s.size : Int)) c2 r3 = (es, r4) := ⟨_, _, rfl⟩
  have hD : decS s = (⟨os, es, es.map (·.request)⟩, r4) := by simp only [decS, h1, h2, h3, h4]
  have HC1 : Hid (∀ W b, RdS W b s (0, 0) → Calls Try.prog 50 #[.pointer (some ⟨b, 0, none⟩), .int .i64 (s.size : Int)] W fun e w' => e = .returned (.int .i64 c1) ∧ RdS w' b s r1 ∧ Chg (· = b) W w') := Lib.hid fun W b hW => by
    have := readCnt hW hs2 (s.size : Int) (by omega) (by omega)
    rw [h1] at this; exact this
  have HC2 : Hid (∀ W b, RdS W b s r2 → Calls Try.prog 50 #[.pointer (some ⟨b, 0, none⟩), .int .i64 (s.size : Int)] W fun e w' => e = .returned (.int .i64 c2) ∧ RdS w' b s r3 ∧ Chg (· = b) W w') := Lib.hid fun W b hW => by
    have := readCnt hW hs2 (s.size : Int) (by omega) (by omega)
    rw [h3] at this; exact this
  have HPG : Hid (PagesOk (decS s).1) := Lib.hid (decS_pages s hs)
  have HS := Lib.hid hs
  have HS2 := Lib.hid hs2
  have H2 := Lib.hid h2
  have H4 := Lib.hid h4
  have HD := Lib.hid hD
  have HK1 : Hid (c1 ≤ 100000000) := Lib.hid (by omega)
  have HK2 : Hid (c2 ≤ 100000000) := Lib.hid (by omega)
  clear hs hs2 h1 hc1 h2 hos h3 hc2 h4 hD
  go_enter Try.func28, Try.ntmps28
  go_upto_region 3 with fail
  have HG0 : GInv s w (((w.alloc (.cells #[.slice none 0 0, .slice none 0 0, .slice none 0 0] 27)).alloc (.cells #[.string s, .int .i64 0, .int .i64 0] 107)).alloc (.cells #[.slice none 0 0, .slice none 0 0, .slice none 0 0] 27)) (w.heap.size + 1) (w.heap.size + 1 + 1) w.heap.size (0, 0) newState [] := by
    have hb1 := alloc_block w (.cells #[.slice none 0 0, .slice none 0 0, .slice none 0 0] 27)
    have hb2 := alloc_block (w.alloc (.cells #[.slice none 0 0, .slice none 0 0, .slice none 0 0] 27)) (.cells #[.string s, .int .i64 0, .int .i64 0] 107)
    rw [show (w.alloc (.cells #[.slice none 0 0, .slice none 0 0, .slice none 0 0] 27)).heap.size = w.heap.size + 1 from by simp] at hb2
    have hh := Here.made (A := stateR) ((w.alloc (.cells #[.slice none 0 0, .slice none 0 0, .slice none 0 0] 27)).alloc (.cells #[.string s, .int .i64 0, .int .i64 0] 107)) 27 _ newState [] (newState_own _) List.nodup_nil
    rw [show ((w.alloc (.cells #[.slice none 0 0, .slice none 0 0, .slice none 0 0] 27)).alloc (.cells #[.string s, .int .i64 0, .int .i64 0] 107)).heap.size = w.heap.size + 1 + 1 from by simp] at hh
    exact ⟨alloc_old _ hb2, hh, by simp, Nat.le_refl _, by omega, by omega, alloc_old _ (alloc_old _ hb1), ((Chg.alloc _ w _).allocR _).allocR _⟩
  generalize ((w.alloc (.cells #[.slice none 0 0, .slice none 0 0, .slice none 0 0] 27)).alloc (.cells #[.string s, .int .i64 0, .int .i64 0] 107)).alloc (.cells #[.slice none 0 0, .slice none 0 0, .slice none 0 0] 27) = w3 at *
  generalize hsb : w.heap.size + 1 + 1 = sb at *
  generalize hrb : w.heap.size + 1 = rb at *
  generalize hn0 : w.heap.size = n0 at *
  have HNN : Hid (w.heap.size = n0 ∧ n0 < rb ∧ rb < sb) := Lib.hid ⟨hn0, by omega, by omega⟩
  clear hsb hrb hn0
  go_wp2_with fail
  refine (HC1.out _ _ HG0.rd).mono ?_
  rintro e w4 ⟨rfl, hz, hcz⟩
  have HG1 := HG0.call hz hcz
  clear HG0 hz hcz
  go_upto_block 0 with fail
  go_cut [6] (fun u6 wx => ∃ F, GInv s w wx rb sb n0 r2 ⟨os, [], []⟩ F)
  case first =>
    go_wp2_with fail
    go_loopw [6] (fun u6 wr => ∃ (m : Nat) (r' : RS) (ls : List Owner) (F : List Nat), u6 = .int .i64 m ∧ ls.length + m ≤ c1 ∧ GInv s w wr rb sb n0 r' ⟨ls, [], []⟩ F ∧ Hid ((os, r2) = (ls ++ (rMany (decO s) m r').1, (rMany (decO s) m r').2))) (fun u6 _ => (intOf u6).toNat)
    case atStart => exact ⟨c1, r1, [], [], rfl, by simp, HG1, Lib.hid (by rw [← H2.out]; simp)⟩
    case round =>
      obtain ⟨m, r', ls, F, rfl, hlm, HG, HF⟩ := hrel
      clear HG1
      have e2 := HG.rd.err
      by_cases hm0 : m = 0
      · subst hm0
        go_wp2_with fail
        go_meet
        have hf := HF.out
        rw [rMany_zero, List.append_nil] at hf
        injection hf with hf1 hf2
        rw [hf1, hf2]
        exact ⟨_, HG⟩
      · have hd0 : decide ((0 : Int) < (m : Int)) = true := by simp; omega
        have hd1 : 0 < m := by omega
        by_cases hr0 : r'.2 = 0
        · rw [hr0] at e2
          obtain ⟨m', rfl⟩ : ∃ m', m = m' + 1 := ⟨m - 1, by omega⟩
          obtain ⟨x, rx, hx⟩ : ∃ x rx, rT s r' = (x, rx) := ⟨_, _, rfl⟩
          obtain ⟨z, ry, hy⟩ : ∃ z ry, rI s rx = (z, ry) := ⟨_, _, rfl⟩
          have HCX : Hid (∀ W, RdS W rb s r' → Calls Try.prog 51 #[.pointer (some ⟨rb, 0, none⟩)] W fun e w' => e = .returned (.string x) ∧ RdS w' rb s rx ∧ Chg (· = rb) W w') := Lib.hid fun W hW => by have := readStr hW HS2.out; rw [hx] at this; exact this
          have HCY : Hid (∀ W, RdS W rb s rx → Calls Try.prog 52 #[.pointer (some ⟨rb, 0, none⟩)] W fun e w' => e = .returned (.int .i64 z) ∧ RdS w' rb s ry ∧ Chg (· = rb) W w') := Lib.hid fun W hW => by have := readInt hW HS2.out; rw [hy] at this; exact this
          have HFX : Hid ((os, r2) = ((ls ++ [⟨x, z⟩]) ++ (rMany (decO s) m' ry).1, (rMany (decO s) m' ry).2)) := Lib.hid (by
            rw [HF.out, rMany_succ _ _ _ hr0]
            have hdo : decO s r' = (⟨x, z⟩, ry) := by simp only [decO, hx, hy]
            rw [hdo]
            simp)
          have HLM : Hid (ls.length + 1 + m' ≤ c1) := Lib.hid (by omega)
          have HLE := Lib.hid elem_owner
          have wm : IntKind.i64.wrap (m' : Int) = (m' : Int) := IntWalk.i64_in _ (by have := HK1.out; omega)
          have HGD := HG.still ((Chg.refl (fun _ => False) wr).drewR)
          obtain ⟨v0, _, _, c0, -, -, F0, _, _, o0, -⟩ := stateCells HGD.st
          obtain ⟨_, _, op0⟩ := Rep.opened o0
          obtain ⟨p0, e0, rfl, -, -⟩ := op0.val
          have HGH := Lib.hid HGD
          have HSR : Hid (sb ≠ rb) := Lib.hid (by have := HNN.out; omega)
          clear hx hy hr0 hlm hm0 hd1 HF o0 op0 HG HGD
          go_upto_region 6 with fail
          go_region_law ((first
            | (go_simp; go_at_call 51; refine (HCX.out _ HGH.out.rd).mono ?_; rintro e wy ⟨rfl, hzy, hcy⟩; have c0y := hcy.cellNe c0 HSR.out)
            | (go_simp; go_at_call 52; refine (HCY.out _ hzy).mono ?_; rintro e wz ⟨rfl, hzz, hcz⟩; have c0z := hcz.cellNe c0y HSR.out; have hcyz := hcy.trans' hcz; have hbase := HGH.out.base hcyz; obtain ⟨p, cap, xs, Fs, Fr, d0, hopen, -, haft, hfin⟩ := hbase.fieldAppending stateR_owners (by show 0 < 3; decide); have d0' := (Chg.cutAt hcyz.size).cell d0; rw [Nat.add_zero, c0z] at d0'; cases d0'; have HAFT := Lib.hid haft; have HFIN := Lib.hid hfin; have hchA := (Chg.cutAt hcyz.size).allocR (.cells #[.string x, .int .i64 z] 67); have hrowA := (hopen.row.chg (Chg.cutAt hcyz.size) (fun _ _ x => x)).alloc (.cells #[.string x, .int .i64 z] 67); have c0A := (Chg.alloc (fun _ => False) wz (.cells #[.string x, .int .i64 z] 67)).cell c0z; clear haft hfin d0)
            | (refine step_append_elem (by rfl) _ _ _ (by rfl) 67 2 24 Try.underlying23 HLE.out (by decide) _ ls.length xs.flatten (by rfl) hrowA [.string x, .int .i64 z] rfl wz.heap.size 67 (0, 0) (by rfl) (alloc_block wz _) (by simp [Value.oneCell']) (by have := HLM.out; have := HK1.out; unfold maxLen; omega) (by have := HLM.out; have := HK1.out; omega) ?_; intro a3 n3 cc3 w6 hrow3 hchg3 hold3; obtain ⟨g3, f3⟩ := HAFT.out _ _ hchA hchg3; rw [Nat.add_zero] at g3 f3)))
          all_goals (
            have hpp := HFIN.out _ _ [.string x, .int .i64 z] ⟨x, z⟩ [] _ hchA ⟨rfl, rfl⟩ (by simp) (by simp) hrow3 hchg3 hold3
            obtain ⟨F9, HG9⟩ := HGH.out.next hzz hcyz hpp
            have HGQ := Lib.hid HG9
            clear HG9 hpp hrow3 hchg3 hold3 hrowA hchA c0A c0z c0y c0 hzz hzy hcz hcy hcyz hbase hopen HFIN HAFT g3 f3 e2
            go_wp2_with fail
            go_roundw
            case rel => exact ⟨m', ry, ls ++ [⟨x, z⟩], F9, by go_num, by have := HLM.out; rw [List.length_append]; simpa using this, HGQ.out, HFX⟩
            case measure => simp [intOf])
        · have hq : (r'.2 == 0) = false := by simpa using hr0
          have HR0 := Lib.hid hr0
          clear hr0
          go_wp2_with fail
          go_meet
          have hf := HF.out
          rw [rMany_err _ _ _ HR0.out, List.append_nil] at hf
          injection hf with hf1 hf2
          rw [hf1, hf2]
          exact ⟨_, HG⟩
  case rest =>
    obtain ⟨F, HG⟩ := hcut
    clear HG1
    go_wp2_with fail
    refine (HC2.out _ _ HG.rd).mono ?_
    rintro e w5 ⟨rfl, hz, hcz⟩
    have HG2 := HG.call hz hcz
    clear HG hz hcz HC1 HC2
    go_upto_block 2 with fail
    go_cut [7] (fun u7 wx => ∃ F, GInv s w wx rb sb n0 r4 ⟨os, es, es.map (·.request)⟩ F)
    case first =>
      go_wp2_with fail
      go_loopw [7] (fun u7 wr => ∃ (m : Nat) (r' : RS) (ls : List Entry) (F : List Nat), u7 = .int .i64 m ∧ ls.length + m ≤ c2 ∧ GInv s w wr rb sb n0 r' ⟨os, ls, ls.map (·.request)⟩ F ∧ Hid ((es, r4) = (ls ++ (rMany (decE s (s.size : Int)) m r').1, (rMany (decE s (s.size : Int)) m r').2))) (fun u7 _ => (intOf u7).toNat)
      case atStart => exact ⟨c2, r3, [], F, rfl, by simp, HG2, Lib.hid (by rw [← H4.out]; simp)⟩
      case round =>
        obtain ⟨m, r', ls, F, rfl, hlm, HG, HF⟩ := hrel
        clear HG2
        have e2 := HG.rd.err
        by_cases hm0 : m = 0
        · subst hm0
          go_wp2_with fail
          go_meet
          have hf := HF.out
          rw [rMany_zero, List.append_nil] at hf
          injection hf with hf1 hf2
          rw [hf1, hf2]
          exact ⟨_, HG⟩
        · have hd0 : decide ((0 : Int) < (m : Int)) = true := by simp; omega
          have hd1 : 0 < m := by omega
          by_cases hr0 : r'.2 = 0
          · rw [hr0] at e2
            obtain ⟨m', rfl⟩ : ∃ m', m = m' + 1 := ⟨m - 1, by omega⟩
            have HFX : Hid ((es, r4) = ((ls ++ [(decE s (s.size : Int) r').1]) ++ (rMany (decE s (s.size : Int)) m' (decE s (s.size : Int) r').2).1, (rMany (decE s (s.size : Int)) m' (decE s (s.size : Int) r').2).2)) := Lib.hid (by
              rw [HF.out, rMany_succ _ _ _ hr0]
              simp)
            have HLM : Hid (ls.length + 1 + m' ≤ c2) := Lib.hid (by omega)
            have HLE := Lib.hid elem_entry
            have HLS := Lib.hid elem_str
            have wm : IntKind.i64.wrap (m' : Int) = (m' : Int) := IntWalk.i64_in _ (by have := HK2.out; omega)
            have HGH := Lib.hid HG
            have HCE := Lib.hid (decEntry_any wr rb s r' (s.size : Int) ⟨by omega, by have := HS.out; omega⟩ (by have := HS.out; omega) HG.rd)
            clear hr0 hlm hm0 HF HG
            go_wp2_with fail
            refine HCE.out.mono ?_
            rintro e w6 ⟨vp, rfl, hz, hrow, hown, hcz⟩
            generalize hE : decE s (s.size : Int) r' = E at *
            have HEE := Lib.hid hE
            clear hE
            obtain ⟨⟨xp, xn, xr, xl, xa, xe, xc⟩, re⟩ := E
            dsimp only at hrow hz HFX ⊢
            obtain ⟨pv, cv, rfl, -, -⟩ := hrow.slice
            have hbase := HGH.out.base hcz
            obtain ⟨p, cap, xs, Fs, Fr, d0, hopen, -, haft, hfin⟩ := hbase.fieldAppending stateR_entries (by show 0 < 3; decide)
            have d1 := (Chg.cutAt hcz.size).cell d0
            have hch1 := ((Chg.cutAt hcz.size).allocR (.cells #[.string xp, .int .i64 xn, .string xr, .slice pv xl.length cv, .int .i64 xa, .bool xe, .bool xc] 69)).allocR (.cells #[.string xp, .int .i64 xn, .string xr, .slice pv xl.length cv, .int .i64 xa, .bool xe, .bool xc] 69)
            have hrow1 := ((hopen.row.chg (Chg.cutAt hcz.size) (fun _ _ x => x)).alloc (.cells #[.string xp, .int .i64 xn, .string xr, .slice pv xl.length cv, .int .i64 xa, .bool xe, .bool xc] 69)).alloc (.cells #[.string xp, .int .i64 xn, .string xr, .slice pv xl.length cv, .int .i64 xa, .bool xe, .bool xc] 69)
            have d2 := (Chg.alloc (fun _ => False) w6 (.cells #[.string xp, .int .i64 xn, .string xr, .slice pv xl.length cv, .int .i64 xa, .bool xe, .bool xc] 69)).cell d1
            have d3 := (Chg.alloc (fun _ => False) (w6.alloc (.cells #[.string xp, .int .i64 xn, .string xr, .slice pv xl.length cv, .int .i64 xa, .bool xe, .bool xc] 69)) (.cells #[.string xp, .int .i64 xn, .string xr, .slice pv xl.length cv, .int .i64 xa, .bool xe, .bool xc] 69)).cell d2
            have hb8 := alloc_block w6 (.cells #[.string xp, .int .i64 xn, .string xr, .slice pv xl.length cv, .int .i64 xa, .bool xe, .bool xc] 69)
            have hb9 := alloc_block (w6.alloc (.cells #[.string xp, .int .i64 xn, .string xr, .slice pv xl.length cv, .int .i64 xa, .bool xe, .bool xc] 69)) (.cells #[.string xp, .int .i64 xn, .string xr, .slice pv xl.length cv, .int .i64 xa, .bool xe, .bool xc] 69)
            rw [show (w6.alloc (.cells #[.string xp, .int .i64 xn, .string xr, .slice pv xl.length cv, .int .i64 xa, .bool xe, .bool xc] 69)).heap.size = w6.heap.size + 1 from by simp] at hb9
            have HB9 := Lib.hid hb9
            have HB8 := Lib.hid (alloc_old (.cells #[.string xp, .int .i64 xn, .string xr, .slice pv xl.length cv, .int .i64 xa, .bool xe, .bool xc] 69) hb8)
            have HAFT := Lib.hid haft
            have HFIN := Lib.hid hfin
            have hownE : entryR.own ((w6.alloc (.cells #[.string xp, .int .i64 xn, .string xr, .slice pv xl.length cv, .int .i64 xa, .bool xe, .bool xc] 69)).alloc (.cells #[.string xp, .int .i64 xn, .string xr, .slice pv xl.length cv, .int .i64 xa, .bool xe, .bool xc] 69)) [.string xp, .int .i64 xn, .string xr, .slice pv xl.length cv, .int .i64 xa, .bool xe, .bool xc] ⟨xp, xn, xr, xl, xa, xe, xc⟩ (ownL (.slice pv xl.length cv)) :=
              ⟨_, _, rfl, own_strs ((hrow.alloc _).alloc _), rfl⟩
            have HOE := Lib.hid hownE
            have HOW : Hid (∀ j ∈ ownL (.slice pv xl.length cv), (cutAt w6 wr.heap.size).heap.size ≤ j) := Lib.hid (fun j hj => by rw [cutAt_size hcz.size]; exact hown j (mem_ownL.1 hj))
            have HNB : Hid (¬ (Value.slice p ls.length cap).ownBlock = some w6.heap.size) := Lib.hid (fun e => by
              have h1 := hopen.row.lt _ e
              rw [cutAt_size hcz.size] at h1
              have := hcz.size
              omega)
            have HSB : Hid (sb < w6.heap.size) := Lib.hid (by have := HGH.out.sbl; have := hcz.size; omega)
            have HZ := Lib.hid hz
            have HCZ := Lib.hid hcz
            clear hz hrow hown hcz hbase haft hfin hownE hb8 hb9 hopen d0 HCE
            go_upto_region 12 with (first
              | (at_builtin; refine list_append_elem rfl (.tmp 54) (.tmp 56) 24 rfl 69 7 80 Try.underlying24 HLE.out (by decide) _ ls.length xs.flatten rfl hrow1 [.string xp, .int .i64 xn, .string xr, .slice pv xl.length cv, .int .i64 xa, .bool xe, .bool xc] rfl (w6.heap.size + 1) 69 (0, 0) rfl HB9.out (by simp [Value.oneCell']) (by have := HLM.out; have := HK2.out; unfold maxLen; omega) (by have := HLM.out; have := HK2.out; omega) ?_; intro a3 n3 cc3 w7 hrow3 hchg3 hold3; obtain ⟨g3, f3⟩ := HAFT.out _ _ hch1 hchg3; have hb10 := hchg3.keep HB8.out HNB.out))
            have hpp := HFIN.out _ _ [.string xp, .int .i64 xn, .string xr, .slice pv xl.length cv, .int .i64 xa, .bool xe, .bool xc] ⟨xp, xn, xr, xl, xa, xe, xc⟩ _ _ hch1 HOE.out HOW.out (own_le_one _) hrow3 hchg3 hold3
            obtain ⟨F8, HG8⟩ := HGH.out.next HZ.out HCZ.out hpp
            have hb11 := setCell_other (b := sb) (i := 0 + 1) (.slice a3 n3 cc3) hb10 (by have := HSB.out; omega)
            clear hpp hrow3 hchg3 hold3 hrow1 hch1 d1 d2 d3 g3 f3 hb10 HFIN HAFT HNB HGH HCZ HZ HOW HOE HB8 HB9
            have HSB2 := Lib.hid HSB.out
            rw [Nat.zero_add] at hb11 HG8
            generalize w7.setCell ⟨sb, 1, none⟩ (.slice a3 n3 cc3) = w8 at *
            obtain ⟨q, qcap, ys, Gs, Gr, e0, hopen2, fz2, haft2, hfin2⟩ := HG8.st.fieldAppending stateR_sent (by show 0 < 3; decide)
            dsimp only at e0 haft2 hfin2
            simp only [List.length_map] at e0 haft2 hfin2
            have e3 : w8.cell? ⟨w6.heap.size, 2, none⟩ = some (.string xr) := cell_of_block (i := 2) hb11 rfl
            have hrow5 := hopen2.row.alloc (.cells #[.string xr] 9)
            dsimp only at hrow5
            simp only [List.length_map] at hrow5
            have hch5 := Chg.alloc (fun _ => False) w8 (.cells #[.string xr] 9)
            have HA2 := Lib.hid haft2
            have HF2 := Lib.hid hfin2
            have HG9 := Lib.hid HG8
            clear haft2 hfin2 hopen2 HG8 hb11 e2
            go_wp2_with (first
              | (at_builtin; refine list_append_elem rfl (.tmp 60) (.tmp 63) 25 rfl 9 1 16 Try.underlying25 HLS.out (by decide) _ ls.length ys.flatten rfl hrow5 [.string xr] rfl w8.heap.size 9 (0, 0) rfl (alloc_block w8 _) (by simp [Value.oneCell']) (by have := HLM.out; have := HK2.out; unfold maxLen; omega) (by have := HLM.out; have := HK2.out; omega) ?_; intro a4 n4 cc4 w9 hrow4 hchg4 hold4; obtain ⟨g4, f4⟩ := HA2.out _ _ hch5 hchg4))
            have hpp := HF2.out _ _ [.string xr] xr [] _ hch5 ⟨rfl, rfl⟩ (by simp) (by simp) hrow4 hchg4 hold4
            obtain ⟨F11, HG11⟩ := HG9.out.post hpp
            rw [Nat.zero_add] at HG11
            have HG12 := Lib.hid HG11
            clear HG11 hpp
            go_roundw
            case rel => exact ⟨m', re, ls ++ [⟨xp, xn, xr, xl, xa, xe, xc⟩], F11, rfl, by have := HLM.out; rw [List.length_append]; simpa using this, by have h := HG12.out; simpa using h, HFX⟩
            case measure => simp [intOf]
          · have hq : (r'.2 == 0) = false := by simpa using hr0
            have HR0 := Lib.hid hr0
            clear hr0
            go_wp2_with fail
            go_meet
            have hf := HF.out
            rw [rMany_err _ _ _ HR0.out, List.append_nil] at hf
            injection hf with hf1 hf2
            rw [hf1, hf2]
            exact ⟨_, HG⟩
    case rest =>
      obtain ⟨F, HG⟩ := hcut
      clear HG2
      have HDN := Lib.hid (readDone HG.rd HS2.out)
      by_cases hg : r4.2 = 0 ∧ r4.1 = s.size
      · have hdn : Hid (∀ W, RdS W rb s r4 → Calls Try.prog 54 #[.pointer (some ⟨rb, 0, none⟩)] W fun e w' => e = .returned (.int .i64 0) ∧ Chg (fun _ => False) W w') := Lib.hid fun W hW => by
          have := readDone hW HS2.out
          rw [if_neg (by simp [hg.1]), if_neg (by simp [hg.2])] at this
          exact this
        have HGG := Lib.hid hg
        clear hg HDN
        go_wp2_with fail
        refine (hdn.out _ HG.rd).mono ?_
        rintro e w7 ⟨rfl, hc7⟩
        have HG7 := HG.still hc7
        clear HG hc7
        obtain ⟨v0, v1, v2, e0, e1, e2, hag⟩ := stateAgg HG7.st
        have HND : Hid F.Nodup := Lib.hid HG7.st.nd
        have hpg : PagesOk ⟨os, es, es.map (·.request)⟩ := by have := HPG.out; rw [HD.out] at this; exact this
        have HPP := Lib.hid hpg
        have HGX := Lib.hid HG7
        clear hpg HG7
        go_wp2_with fail
        refine (formed_any _ v0 v1 v2 _ F hag HND.out HPP.out).mono ?_
        rintro e w8 ⟨β, rfl, hβ, hc8⟩
        have HG8 := HGX.out.still hc8
        have hag8 := stateR.chg hag hc8 (fun _ _ x => x)
        have z0 := cell_of_block (i := 0) HG8.old rfl
        have z1 := cell_of_block (i := 1) HG8.old rfl
        have z2 := cell_of_block (i := 2) HG8.old rfl
        have fz := fun i => frozen_of_block (i := i) HG8.old
        have y0 := hc8.cell e0
        have y1 := hc8.cell e1
        have y2 := hc8.cell e2
        have HB := Lib.hid hβ
        have HG9 := Lib.hid HG8
        have HAG := Lib.hid hag8
        have HND8 := Lib.hid HND.out
        have hag9 := hag8
        obtain ⟨_, _, _, F0, F1, F2, hv, q0, q1, q2, -⟩ := hag9
        cases hv
        obtain ⟨_, _, op0⟩ := Rep.opened q0
        obtain ⟨_, _, op1⟩ := Rep.opened q1
        obtain ⟨_, _, op2⟩ := Rep.opened q2
        obtain ⟨p0, k0, rfl, -, -⟩ := op0.val
        obtain ⟨p1, k1, rfl, -, -⟩ := op1.val
        obtain ⟨p2, k2, rfl, -, -⟩ := op2.val
        rw [List.length_map] at HAG y2
        clear hβ HG8 hag hag8 e0 e1 e2 hc8 q0 q1 q2 op0 op1 op2
        cases β with
        | true =>
          have HGOOD : Hid (Good s) := Lib.hid ⟨by rw [HD.out]; exact HGG.out.1, by rw [HD.out]; exact HGG.out.2, by rw [HD.out]; exact HB.out.1 rfl⟩
          go_wp2_with fail
          refine dec_end HG9.out.old HAG.out HND8.out (fun k hk => ⟨(HG9.out.los k hk).1, (HG9.out.los k hk).2.2⟩) HG9.out.chg HG9.out.n1 ?_ ?_ ?_ (.inl ⟨HGOOD.out, by rw [HD.out], rfl⟩)
          · rfl
          · rfl
          · rfl
        | false =>
          have HBAD : Hid (¬ Good s) := Lib.hid (fun g => by
            have := g.ok
            rw [HD.out] at this
            have := HB.out.2 this
            cases this)
          go_wp2_with fail
          refine dec_end HG9.out.old (newState_own _) List.nodup_nil (by simp) HG9.out.chg HG9.out.n1 ?_ ?_ ?_ (.inr ⟨HBAD.out, rfl, rfl⟩)
          · rfl
          · rfl
          · rfl
      · obtain ⟨d, hd, hdn⟩ : ∃ d : Int, (d == 0) = false ∧ Hid (∀ W, RdS W rb s r4 → Calls Try.prog 54 #[.pointer (some ⟨rb, 0, none⟩)] W fun e w' => e = .returned (.int .i64 d) ∧ Chg (fun _ => False) W w') := by
          by_cases h1 : r4.2 = 0
          · have h2 : r4.1 ≠ s.size := fun e => hg ⟨h1, e⟩
            refine ⟨3, rfl, Lib.hid fun W hW => ?_⟩
            have := readDone hW HS2.out
            rw [if_neg (by simp [h1]), if_pos h2] at this
            exact this
          · refine ⟨r4.2, by simpa using h1, Lib.hid fun W hW => ?_⟩
            have := readDone hW HS2.out
            rw [if_pos h1] at this
            exact this
        have HBAD : Hid (¬ Good s) := Lib.hid (fun g => hg ⟨by have := g.err; rw [HD.out] at this; exact this, by have := g.all; rw [HD.out] at this; exact this⟩)
        have hd2 : (d != 0) = true := by rw [bne, hd]; rfl
        clear hg HDN
        go_wp2_with fail
        refine (hdn.out _ HG.rd).mono ?_
        rintro e w7 ⟨rfl, hc7⟩
        have HG7 := HG.still hc7
        have z0 := cell_of_block (i := 0) HG7.old rfl
        have z1 := cell_of_block (i := 1) HG7.old rfl
        have z2 := cell_of_block (i := 2) HG7.old rfl
        have fz := fun i => frozen_of_block (i := i) HG7.old
        have HG9 := Lib.hid HG7
        clear HG hc7 HG7
        go_wp2_with fail
        refine dec_end HG9.out.old (newState_own _) List.nodup_nil (by simp) HG9.out.chg HG9.out.n1 ?_ ?_ ?_ (.inr ⟨HBAD.out, rfl, rfl⟩)
        · rfl
        · rfl
        · rfl
end Go.Proofs.Ytaacafdlklnegaa
