/-
  do: a call of the statements on the network's side.
-/
import Derived.Test.YtaacafdlklnegaaTikp
import Derived.Deep.CutBlock
namespace Go.Proofs.Ytaacafdlklnegaa
open Go.RowKit
set_option linter.unusedVariables false

/-- What do leaves: its answer's rows are new and apart from the state. -/
def Done (w : World) (b o : Nat) (s : State) (F : List Nat) (t : Told) (e : Ending) (w' : World) : Prop :=
  ∃ vl vn F', e = .returned (.agg #[.int .i64 t.e, vl, .bool t.done, vn]) ∧ Here stateR w' b o s F' ∧ Step w w' b o 3 F F' ∧
    RowAt w' 9 1 vl t.l.length (t.l.map Value.string) ∧ RowAt w' 3 1 vn t.n.length (t.n.map (Value.int .i64)) ∧
    (∀ k, vl.ownBlock = some k ∨ vn.ownBlock = some k → w.heap.size ≤ k ∧ k ∉ F')
theorem wrap_i8 (n : Int) (h : -128 ≤ n ∧ n ≤ 127) : IntKind.i64.wrap n = n := IntWalk.i64_in _ (by omega)

theorem ownB_slice_none : (Value.slice none 0 0).ownBlock = none := rfl
/-- The state of affairs behind the switch: what the answer's block n holds, and the state. -/
structure Mid (w wx : World) (b o n : Nat) (s : State) (F : List Nat) (t : Told) (vl vn : Value) (F' : List Nat) : Prop where
  told : wx.heap[n]? = some (.cells #[.int .i64 t.e, vl, .bool t.done, vn] 50 (0, 0))
  res : ∃ a b c d, wx.heap[w.heap.size + 1]? = some (.cells #[a, b, c, d] 50 (0, 0))
  here : Here stateR wx b o s F'
  free : w.heap.size + 1 ∉ F'
  step : Step w wx b o 3 F F'
  rl : RowAt wx 9 1 vl t.l.length (t.l.map Value.string)
  rn : RowAt wx 3 1 vn t.n.length (t.n.map (Value.int .i64))
  own : ∀ k, vl.ownBlock = some k ∨ vn.ownBlock = some k → w.heap.size + 3 ≤ k ∧ k ∉ F'
section
variable {w wB w' : World} {b o : Nat} {s s' : State} {F : List Nat}
/-- The four cells of an answer are stored. -/
theorem store4 {w : World} {b T : Nat} {a0 a1 a2 a3 : Value} (h : w.heap[b]? = some (.cells #[a0, a1, a2, a3] T (0, 0))) (v0 v1 v2 v3 : Value) :
    ((((w.setCell ⟨b, 0, none⟩ v0).setCell ⟨b, 1, none⟩ v1).setCell ⟨b, 2, none⟩ v2).setCell ⟨b, 3, none⟩ v3).heap[b]? = some (.cells #[v0, v1, v2, v3] T (0, 0)) ∧
    Chg (· = b) w ((((w.setCell ⟨b, 0, none⟩ v0).setCell ⟨b, 1, none⟩ v1).setCell ⟨b, 2, none⟩ v2).setCell ⟨b, 3, none⟩ v3) := by
  refine ⟨?_, (((Chg.setCell w ⟨b, 0, none⟩ v0).trans' (Chg.setCell _ ⟨b, 1, none⟩ v1)).trans' (Chg.setCell _ ⟨b, 2, none⟩ v2)).trans' (Chg.setCell _ ⟨b, 3, none⟩ v3)⟩
  rw [setCell_block v3 (setCell_block v2 (setCell_block v1 (setCell_block v0 h)))]
  simp
/-- A step, and then stores into new blocks. -/
theorem Step.newer {F' : List Nat} {n : Nat} {wx : World} (h : Step w w' b o 3 F F') (hb : b < n) (hn : w.heap.size ≤ n) (hc : Chg (· = n) w' wx) : Step w wx b o 3 F F' := by
  refine ⟨h.chg.trans hc (fun _ _ x => x) (fun i hi x => by omega), h.new, fun c T hk => ?_⟩
  obtain ⟨c', h1, h2, h3⟩ := h.rest c T hk
  exact ⟨c', hc.keep h1 (by omega), h2, h3⟩
end
section
variable {w wB w' : World} {b o : Nat} {s s' : State} {F : List Nat}
def zeroTold : Array Value := #[.int .i64 0, .slice none 0 0, .bool false, .slice none 0 0]
/-- The state of affairs ahead of the switch. -/
structure Pre (w wB : World) (b o : Nat) (s : State) (F : List Nat) : Prop where
  chg : Chg (fun _ => False) w wB
  size : wB.heap.size = w.heap.size + 3
  told : wB.heap[w.heap.size + 2]? = some (.cells #[.int .i64 0, .slice none 0 0, .bool false, .slice none 0 0] 50 (0, 0))
  res : wB.heap[w.heap.size + 1]? = some (.cells #[.int .i64 0, .slice none 0 0, .bool false, .slice none 0 0] 50 (0, 0))
  here : Here stateR w b o s F
theorem Pre.mid (h : Pre w wB b o s F) (e : Int) (hp : Post stateR wB b o s' F w') :
    ∃ F', Mid w (w'.setCell ⟨w.heap.size + 2, 0, none⟩ (.int .i64 e)) b o (w.heap.size + 2) s' F ⟨e, [], false, []⟩ (.slice none 0 0) (.slice none 0 0) F' := by
  obtain ⟨F', h1, h2⟩ := hp
  obtain ⟨hb, hF⟩ := h.here.lt
  have hn : ∀ k, w.heap.size ≤ k → ¬ (k = b ∨ k ∈ F) := by
    rintro k hk (x | x)
    · omega
    · have := hF k x; omega
  have g2 := h2.chg.keep h.told (hn _ (by omega))
  have g1 := h2.chg.keep h.res (hn _ (by omega))
  have hF' : w.heap.size + 2 ∉ F' := fun x => by
    rcases h2.new _ x with y | y
    · have := hF _ y; omega
    · have := h.size; omega
  have hc := Chg.setCell w' ⟨w.heap.size + 2, 0, none⟩ (.int .i64 e)
  refine ⟨F', ?_, ⟨_, _, _, _, setCell_other _ g1 (by omega)⟩, h1.chg hc (by show ¬ b = w.heap.size + 2; omega) (fun k hk => by show ¬ k = w.heap.size + 2; rintro rfl; exact hF' hk), ?_, ?_, RowAt.nil _ _ _, RowAt.nil _ _ _, by simp [ownB_slice_none]⟩
  · rw [setCell_block _ g2]; simp
  · intro x
    rcases h2.new _ x with y | y
    · have := hF _ y; omega
    · have := h.size; omega
  · exact ((Step.ofChg h.chg).trans h2).newer (n := w.heap.size + 2) (by omega) (by omega) hc
theorem Pre.midTake (h : Pre w wB b o s F) {e : Int} {l : List ByteArray} {d : Bool} {v : Value} (hc : Chg (fun _ => False) wB w') (hv : RowAt w' 9 1 v l.length (l.map Value.string)) (ho : ∀ k, v.ownBlock = some k → wB.heap.size ≤ k) :
    Mid w (((w'.setCell ⟨w.heap.size + 2, 1, none⟩ v).setCell ⟨w.heap.size + 2, 2, none⟩ (.bool d)).setCell ⟨w.heap.size + 2, 0, none⟩ (.int .i64 e)) b o (w.heap.size + 2) s F ⟨e, l, d, []⟩ v (.slice none 0 0) F := by
  obtain ⟨hb, hF⟩ := h.here.lt
  have g2 := hc.keep h.told (fun x => x)
  have g1 := hc.keep h.res (fun x => x)
  have hs : Chg (· = w.heap.size + 2) w' (((w'.setCell ⟨w.heap.size + 2, 1, none⟩ v).setCell ⟨w.heap.size + 2, 2, none⟩ (.bool d)).setCell ⟨w.heap.size + 2, 0, none⟩ (.int .i64 e)) :=
    ((Chg.setCell w' ⟨w.heap.size + 2, 1, none⟩ v).trans' (Chg.setCell _ ⟨w.heap.size + 2, 2, none⟩ _)).trans' (Chg.setCell _ ⟨w.heap.size + 2, 0, none⟩ _)
  refine ⟨?_, ⟨_, _, _, _, setCell_other _ (setCell_other _ (setCell_other _ g1 (by omega)) (by omega)) (by omega)⟩, (h.here.still (h.chg.trans' hc)).chg hs (by show ¬ b = w.heap.size + 2; omega) (fun k hk => by show ¬ k = w.heap.size + 2; have := hF k hk; omega), (fun x => by have := hF _ x; omega), ?_, ?_, RowAt.nil _ _ _, ?_⟩
  · rw [setCell_block _ (setCell_block _ (setCell_block _ g2))]; simp
  · exact (Step.ofChg (h.chg.trans' hc)).newer (n := w.heap.size + 2) (by omega) (by omega) hs
  · refine hv.chg hs (fun k hk => ?_)
    have := ho k hk; have := h.size
    show ¬ k = w.heap.size + 2
    omega
  · intro k hk
    rcases hk with hk | hk
    · have := ho k hk; have := h.size
      exact ⟨by omega, fun x => by have := hF k x; omega⟩
    · simp [ownB_slice_none] at hk
theorem Pre.midOpen (h : Pre w wB b o s F) {l : List Int} {v : Value} (hc : Chg (fun _ => False) wB w') (hv : RowAt w' 3 1 v l.length (l.map (Value.int .i64))) (ho : ∀ k, v.ownBlock = some k → wB.heap.size ≤ k) :
    Mid w (w'.setCell ⟨w.heap.size + 2, 3, none⟩ v) b o (w.heap.size + 2) s F ⟨0, [], false, l⟩ (.slice none 0 0) v F := by
  obtain ⟨hb, hF⟩ := h.here.lt
  have g2 := hc.keep h.told (fun x => x)
  have g1 := hc.keep h.res (fun x => x)
  have hs := Chg.setCell w' ⟨w.heap.size + 2, 3, none⟩ v
  refine ⟨?_, ⟨_, _, _, _, setCell_other _ g1 (by omega)⟩, (h.here.still (h.chg.trans' hc)).chg hs (by show ¬ b = w.heap.size + 2; omega) (fun k hk => by show ¬ k = w.heap.size + 2; have := hF k hk; omega), (fun x => by have := hF _ x; omega), ?_, RowAt.nil _ _ _, ?_, ?_⟩
  · rw [setCell_block _ g2]; simp
  · exact (Step.ofChg (h.chg.trans' hc)).newer (n := w.heap.size + 2) (by omega) (by omega) hs
  · refine hv.chg hs (fun k hk => ?_)
    have := ho k hk; have := h.size
    show ¬ k = w.heap.size + 2
    omega
  · intro k hk
    rcases hk with hk | hk
    · simp [ownB_slice_none] at hk
    · have := ho k hk; have := h.size
      exact ⟨by omega, fun x => by have := hF k x; omega⟩
end

section
variable {w wB w' : World} {b o : Nat} {s s' : State} {F : List Nat}
theorem Pre.kept (h : Pre w wB b o s F) {S : Nat → Prop} (hc : Chg S wB w') (hn : ¬ S (w.heap.size + 2)) :
    w'.cell? ⟨w.heap.size + 2, 0, none⟩ = some (.int .i64 0) ∧ w'.cell? ⟨w.heap.size + 2, 1, none⟩ = some (.slice none 0 0) ∧ w'.cell? ⟨w.heap.size + 2, 2, none⟩ = some (.bool false) ∧ w'.cell? ⟨w.heap.size + 2, 3, none⟩ = some (.slice none 0 0) ∧ ∀ i, w'.frozen? ⟨w.heap.size + 2, i, none⟩ = false := by
  have g := hc.keep h.told hn
  exact ⟨cell_of_block (i := 0) g rfl, cell_of_block (i := 1) g rfl, cell_of_block (i := 2) g rfl, cell_of_block (i := 3) g rfl, fun i => frozen_of_block g⟩
theorem Pre.keptPost (h : Pre w wB b o s F) (hp : Post stateR wB b o s' F w') :
    w'.cell? ⟨w.heap.size + 2, 0, none⟩ = some (.int .i64 0) ∧ w'.frozen? ⟨w.heap.size + 2, 0, none⟩ = false := by
  obtain ⟨F', h1, h2⟩ := hp
  obtain ⟨hb, hF⟩ := h.here.lt
  obtain ⟨c0, -, -, -, f⟩ := h.kept h2.chg (by rintro (x | x); omega; have := hF _ x; omega)
  exact ⟨c0, f 0⟩
end
/-- The end of do: the answer that it returns lies in the second block that it made. -/
theorem do_end {w wx : World} {b o : Nat} {s : State} {F F' : List Nat} {t : Told} {vl vn : Value} {a : Act} {s0 : State} {x : COp} (h : Mid w wx b o (w.heap.size + 2) s F t vl vn F') (hs : (doM s0 x).2 = s) (ht : (doM s0 x).1 = t)
    (h4 : a.tmps[4]? = some (.pointer (some ⟨w.heap.size + 1, 0, none⟩))) (hd : a.defers = []) (hb : b < w.heap.size) :
    bodyPost Try.prog Try.f22 (fun e w' => Done w b o (doM s0 x).2 F (doM s0 x).1 e w') .ret a ((((wx.setCell ⟨w.heap.size + 1, 0, none⟩ (.int .i64 t.e)).setCell ⟨w.heap.size + 1, 1, none⟩ vl).setCell ⟨w.heap.size + 1, 2, none⟩ (.bool t.done)).setCell ⟨w.heap.size + 1, 3, none⟩ vn) := by
  obtain ⟨ra, rb, rc, rd, hres⟩ := h.res
  obtain ⟨hbl, hch⟩ := store4 hres (.int .i64 t.e) vl (.bool t.done) vn
  obtain ⟨pl, cl, rfl, -, -⟩ := h.rl.slice
  obtain ⟨pn, cn, rfl, -, -⟩ := h.rn.slice
  have hF' := h.free
  refine bodyPost_ret (v := .agg #[.int .i64 t.e, .slice pl t.l.length cl, .bool t.done, .slice pn t.n.length cn]) ?_ hd ?_
  · have c0 := cell_of_block (i := 0) hbl rfl
    have c1 := cell_of_block (i := 1) hbl rfl
    have c2 := cell_of_block (i := 2) hbl rfl
    have c3 := cell_of_block (i := 3) hbl rfl
    simp [results, Try.results22, go_sem, h4, c0, c1, c2, c3]
  · rw [hs, ht]
    refine ⟨_, _, F', rfl, h.here.chg hch (by show ¬ b = w.heap.size + 1; omega) (fun k hk => by show ¬ k = w.heap.size + 1; rintro rfl; exact hF' hk), h.step.newer (n := w.heap.size + 1) (by omega) (by omega) hch, ?_, ?_, fun k hk => ⟨by have := (h.own k hk).1; omega, (h.own k hk).2⟩⟩
    · exact h.rl.chg hch (fun k hk => by show ¬ k = w.heap.size + 1; have := (h.own k (.inl hk)).1; omega)
    · exact h.rn.chg hch (fun k hk => by show ¬ k = w.heap.size + 1; have := (h.own k (.inr hk)).1; omega)
/-- Behind the switch. -/
def MidE (w wx : World) (b o : Nat) (s : State) (F : List Nat) (t : Told) : Prop := ∃ vl vn F', Mid w wx b o (w.heap.size + 2) s F t vl vn F'

set_option maxHeartbeats 3200000 in
set_option maxRecDepth 100000 in
theorem do_any (w : World) (b o : Nat) (s : State) (F : List Nat) (x : COp) (n : Nat) (hn : n ≤ 1000) (hx : COpOk x) (hs : Small s n) (H : Here stateR w b o s F) :
    Calls Try.prog 22 #[.pointer (some ⟨b, o, none⟩), .agg x.cells.toArray] w fun e w' => Done w b o (doM s x).2 F (doM s x).1 e w' := by
  have HX := Lib.hid hx
  have HS := Lib.hid hs
  have HN := Lib.hid hn
  have HH := Lib.hid H
  have k1 := wrap_i8 _ hx.epoch
  have k2 := wrap_i8 _ hx.number
  have k3 := wrap_i8 _ hx.at_
  clear hn hs hx H
  unfold COp.cells
  go_enter Try.func22, Try.ntmps22
  go_wp2_with fail
  have hq : ∃ q : Nat, q < 4 ∧ x.page % 4 = (q : Int) := ⟨(x.page % 4).toNat, by omega, by omega⟩
  obtain ⟨q, hq1, hq2⟩ := hq
  have HQ := Lib.hid hq1
  have HQ2 := Lib.hid hq2
  have hpg : x.name = pageN q := by unfold COp.name; rw [hq2]; rfl
  have HPG := Lib.hid hpg
  clear hq1 hq2 hpg
  have hk : ∃ k : Nat, k < 8 ∧ x.kind % 8 = (k : Int) := ⟨(x.kind % 8).toNat, by omega, by omega⟩
  obtain ⟨k, hk8, hke⟩ := hk
  have hm : x.kind.tmod 8 = (k : Int) := by rw [Int.tmod_eq_emod_of_nonneg HX.out.kind.1]; exact hke
  have HK : Hid ((x.kind % 8).toNat = k) := Lib.hid (by omega)
  have HK8 := Lib.hid hk8
  clear hk8 hke
  have hg := alloc_old (.cells #[.int .i64 0, .slice none 0 0, .bool false, .slice none 0 0] 50) (alloc_block w (.cells #[.int .u8 x.kind, .int .u8 x.page, .int .i8 x.epoch, .int .i8 x.number, .int .i8 x.at_, .string x.text] 48))
  have hr := alloc_block (w.alloc (.cells #[.int .u8 x.kind, .int .u8 x.page, .int .i8 x.epoch, .int .i8 x.number, .int .i8 x.at_, .string x.text] 48)) (.cells #[.int .i64 0, .slice none 0 0, .bool false, .slice none 0 0] 50)
  have hcA := (Chg.alloc (fun _ => False) w (.cells #[.int .u8 x.kind, .int .u8 x.page, .int .i8 x.epoch, .int .i8 x.number, .int .i8 x.at_, .string x.text] 48)).allocR (.cells #[.int .i64 0, .slice none 0 0, .bool false, .slice none 0 0] 50)
  rw [show (w.alloc (.cells #[.int .u8 x.kind, .int .u8 x.page, .int .i8 x.epoch, .int .i8 x.number, .int .i8 x.at_, .string x.text] 48)).heap.size = w.heap.size + 1 from by simp] at hr
  generalize hW : (w.alloc (.cells #[.int .u8 x.kind, .int .u8 x.page, .int .i8 x.epoch, .int .i8 x.number, .int .i8 x.at_, .string x.text] 48)).alloc (.cells #[.int .i64 0, .slice none 0 0, .bool false, .slice none 0 0] 50) = w2 at *
  have z2 : w2.heap.size = w.heap.size + 2 := by rw [← hW]; simp
  have c0 : w2.cell? ⟨w.heap.size, 0, none⟩ = some (.int .u8 x.kind) := cell_of_block (i := 0) hg rfl
  have c1 : w2.drew.cell? ⟨w.heap.size, 1, none⟩ = some (.int .u8 x.page) := cell_of_block (i := 1) hg rfl
  have c2 : w2.drew.cell? ⟨w.heap.size, 2, none⟩ = some (.int .i8 x.epoch) := cell_of_block (i := 2) hg rfl
  have c3 : w2.drew.cell? ⟨w.heap.size, 3, none⟩ = some (.int .i8 x.number) := cell_of_block (i := 3) hg rfl
  have c4 : w2.drew.cell? ⟨w.heap.size, 4, none⟩ = some (.int .i8 x.at_) := cell_of_block (i := 4) hg rfl
  have HG := Lib.hid hg
  have HR := Lib.hid hr
  clear hg hW hr
  go_region_held3 (fun w' => w'.cell? ⟨w.heap.size, 1, none⟩ = some (.int .u8 x.page) ∧ w'.cell? ⟨w.heap.size, 2, none⟩ = some (.int .i8 x.epoch) ∧ w'.cell? ⟨w.heap.size, 3, none⟩ = some (.int .i8 x.number) ∧ w'.cell? ⟨w.heap.size, 4, none⟩ = some (.int .i8 x.at_)) (first | exact ⟨c1, c2, c3, c4⟩ | go_keep)
    ((go_at_call 27; refine (name_any _ _ _ HQ.out HX.out.page HQ2.out).mono ?_; rintro y w5 ⟨rfl, rfl⟩))
  clear c1 c2 c3 c4
  go_upto_block 0 with fail
  have hPre : Pre w (w2.alloc (.cells #[.int .i64 0, .slice none 0 0, .bool false, .slice none 0 0] 50)).drew b o s F :=
    ⟨(hcA.allocR _).drewR, by simp [z2], by have := alloc_block w2 (.cells #[.int .i64 0, .slice none 0 0, .bool false, .slice none 0 0] 50); rw [z2] at this; exact this, alloc_old _ HR.out, HH.out⟩
  have c5 : (w2.alloc (.cells #[.int .i64 0, .slice none 0 0, .bool false, .slice none 0 0] 50)).drew.cell? ⟨w.heap.size, 5, none⟩ = some (.string x.text) := cell_of_block (i := 5) (alloc_old _ HG.out) rfl
  clear c0 z2 hcA HG HR
  generalize (w2.alloc (.cells #[.int .i64 0, .slice none 0 0, .bool false, .slice none 0 0] 50)).drew = wB at *
  have HB : Here stateR wB b o s F := HH.out.still hPre.chg
  have hlt := HB.lt
  go_cut [] (fun wx => MidE w wx b o (doM s x).2 F (doM s x).1)
  case first =>
    have h8 := HK8.out
    have hcase : k = 0 ∨ k = 1 ∨ k = 2 ∨ k = 3 ∨ k = 4 ∨ k = 5 ∨ k = 6 ∨ k = 7 := by omega
    clear h8
    rcases hcase with rfl | rfl | rfl | rfl | rfl | rfl | rfl | rfl
    · as_aux_lemma =>
        have HM : Hid (doM s x = (⟨(claimM s (pageN q) x.epoch).1, [], false, []⟩, (claimM s (pageN q) x.epoch).2)) := Lib.hid (by unfold doM; rw [HK.out, HPG.out]; rfl)
        go_wp2_with fail
        refine (claim_any _ b o s F (pageN q) x.epoch HB (by rw [pageN_size]; decide) ⟨by have := HS.out.owners; have := HN.out; omega⟩).mono ?_
        rintro y w5 ⟨rfl, hp⟩
        obtain ⟨d0, fz⟩ := hPre.keptPost hp
        go_wp2_with fail
        go_meet
        rw [HM.out]
        exact ⟨_, _, hPre.mid _ hp⟩
    · as_aux_lemma =>
        have HM : Hid (doM s x = (⟨(askM s (pageN q) x.epoch x.number x.text).1, [], false, []⟩, (askM s (pageN q) x.epoch x.number x.text).2)) := Lib.hid (by unfold doM; rw [HK.out, HPG.out]; rfl)
        go_wp2_with fail
        refine (ask_any _ b o s F (pageN q) x.epoch x.number x.text HB ⟨by have := HS.out.entries; have := HN.out; omega⟩ ⟨by have := HS.out.sent; have := HN.out; omega⟩).mono ?_
        rintro y w5 ⟨rfl, hp⟩
        obtain ⟨d0, fz⟩ := hPre.keptPost hp
        go_wp2_with fail
        go_meet
        rw [HM.out]
        exact ⟨_, _, hPre.mid _ hp⟩
    · as_aux_lemma =>
        have HM : Hid (doM s x = (⟨(feedM s (pageN q) x.number x.text).1, [], false, []⟩, (feedM s (pageN q) x.number x.text).2)) := Lib.hid (by unfold doM; rw [HK.out, HPG.out]; rfl)
        go_wp2_with fail
        refine (feed_any _ b o s F (pageN q) x.number x.text HB (fun y hy => ((HS.out.ok HN.out) y hy).few)).mono ?_
        rintro y w5 ⟨rfl, hp⟩
        obtain ⟨d0, fz⟩ := hPre.keptPost hp
        go_wp2_with fail
        go_meet
        rw [HM.out]
        exact ⟨_, _, hPre.mid _ hp⟩
    · as_aux_lemma =>
        have HM : Hid (doM s x = (⟨(endM s (pageN q) x.number).1, [], false, []⟩, (endM s (pageN q) x.number).2)) := Lib.hid (by unfold doM; rw [HK.out, HPG.out]; rfl)
        go_wp2_with fail
        refine (end_any _ b o s F (pageN q) x.number HB).mono ?_
        rintro y w5 ⟨rfl, hp⟩
        obtain ⟨d0, fz⟩ := hPre.keptPost hp
        go_wp2_with fail
        go_meet
        rw [HM.out]
        exact ⟨_, _, hPre.mid _ hp⟩
    · as_aux_lemma =>
        have HM : Hid (doM s x = (⟨(takeM s (pageN q) x.epoch x.number x.at_).2.2, (takeM s (pageN q) x.epoch x.number x.at_).1, (takeM s (pageN q) x.epoch x.number x.at_).2.1, []⟩, s)) := Lib.hid (by unfold doM; rw [HK.out, HPG.out]; rfl)
        go_wp2_with fail
        refine (take_any _ b o s F (pageN q) x.epoch x.number x.at_ HB (HS.out.ok HN.out)).mono ?_
        rintro y w5 ⟨v, rfl, hrow, hown, hch⟩
        obtain ⟨pa, pc, rfl, -, -⟩ := hrow.slice
        obtain ⟨d0, d1, d2, d3, fz⟩ := hPre.kept hch (fun x => x)
        go_wp2_with fail
        go_meet
        rw [HM.out]
        exact ⟨_, _, _, hPre.midTake hch hrow hown⟩
    · as_aux_lemma =>
        have HM : Hid (doM s x = (⟨(ackM s (pageN q) x.epoch x.number x.at_).1, [], false, []⟩, (ackM s (pageN q) x.epoch x.number x.at_).2)) := Lib.hid (by unfold doM; rw [HK.out, HPG.out]; rfl)
        go_wp2_with fail
        refine (ack_any _ b o s F (pageN q) x.epoch x.number x.at_ HB (HS.out.ok HN.out)).mono ?_
        rintro y w5 ⟨rfl, hp⟩
        obtain ⟨d0, fz⟩ := hPre.keptPost hp
        go_wp2_with fail
        go_meet
        rw [HM.out]
        exact ⟨_, _, hPre.mid _ hp⟩
    · as_aux_lemma =>
        have HM : Hid (doM s x = (⟨(closeM s (pageN q) x.epoch x.number).1, [], false, []⟩, (closeM s (pageN q) x.epoch x.number).2)) := Lib.hid (by unfold doM; rw [HK.out, HPG.out]; rfl)
        go_wp2_with fail
        refine (close_any _ b o s F (pageN q) x.epoch x.number HB (fun y hy => ⟨((HS.out.ok HN.out) y hy).few, ((HS.out.ok HN.out) y hy).ack, ((HS.out.ok HN.out) y hy).ackFew⟩)).mono ?_
        rintro y w5 ⟨rfl, hp⟩
        obtain ⟨d0, fz⟩ := hPre.keptPost hp
        go_wp2_with fail
        go_meet
        rw [HM.out]
        exact ⟨_, _, hPre.mid _ hp⟩
    · as_aux_lemma =>
        have HM : Hid (doM s x = (⟨0, [], false, openL s (pageN q)⟩, s)) := Lib.hid (by unfold doM; rw [HK.out, HPG.out]; rfl)
        go_wp2_with fail
        refine (openNums_any _ b o s F (pageN q) HB ⟨by have := HS.out.entries; have := HN.out; omega⟩).mono ?_
        rintro y w5 ⟨v, rfl, hrow, hown, hch⟩
        obtain ⟨pa, pc, rfl, -, -⟩ := hrow.slice
        obtain ⟨d0, d1, d2, d3, fz⟩ := hPre.kept hch (fun x => x)
        go_wp2_with fail
        go_meet
        rw [HM.out]
        exact ⟨_, _, _, hPre.midOpen hch hrow hown⟩
  case rest =>
    obtain ⟨vl, vn, F', HM⟩ := hcut
    have hM := HM
    obtain ⟨pl, cl, rfl, -, -⟩ := HM.rl.slice
    obtain ⟨pn, cn, rfl, -, -⟩ := HM.rn.slice
    obtain ⟨ra, rb, rc, rd, hres⟩ := HM.res
    have g0 : wc.cell? ⟨w.heap.size + 2, 0, none⟩ = _ := cell_of_block (i := 0) HM.told rfl
    have g1 : wc.cell? ⟨w.heap.size + 2, 1, none⟩ = _ := cell_of_block (i := 1) HM.told rfl
    have g2 : wc.cell? ⟨w.heap.size + 2, 2, none⟩ = _ := cell_of_block (i := 2) HM.told rfl
    have g3 : wc.cell? ⟨w.heap.size + 2, 3, none⟩ = _ := cell_of_block (i := 3) HM.told rfl
    have r0 : wc.cell? ⟨w.heap.size + 1, 0, none⟩ = some ra := cell_of_block (i := 0) hres rfl
    have r1 : wc.cell? ⟨w.heap.size + 1, 1, none⟩ = some rb := cell_of_block (i := 1) hres rfl
    have r2 : wc.cell? ⟨w.heap.size + 1, 2, none⟩ = some rc := cell_of_block (i := 2) hres rfl
    have r3 : wc.cell? ⟨w.heap.size + 1, 3, none⟩ = some rd := cell_of_block (i := 3) hres rfl
    have fz : ∀ i, wc.frozen? ⟨w.heap.size + 1, i, none⟩ = false := fun i => frozen_of_block hres
    have HMM := Lib.hid hM
    obtain ⟨te, tl, td, tn, ht⟩ : ∃ te tl td tn, (doM s x).1 = ⟨te, tl, td, tn⟩ := ⟨_, _, _, _, rfl⟩
    rw [ht] at g0 g1 g2 g3
    rw [ht] at HMM
    have HT := Lib.hid ht
    have HLT := Lib.hid HH.out.lt.1
    clear HM hM ht hres
    dsimp only at g0 g1 g2 g3
    go_wp2_with fail
    refine do_end (t := ⟨te, tl, td, tn⟩) (vl := .slice pl tl.length cl) (vn := .slice pn tn.length cn) (F' := F') HMM.out rfl HT.out ?_ ?_ HLT.out
    · rfl
    · rfl
end Go.Proofs.Ytaacafdlklnegaa
