/-
  port.keys.
  port.Valid: its closure.
  port.Valid; history's allowed.
  History.Push.
-/
import Derived.Test.YtiecgbmeobpomaaDoorPHistoryNewi
import Derived.Test.YtiecgbmeobpomaaDoorPHistoryNewd
import Derived.Laws.EntriesVeiled
import Derived.Test.YtiecgbmeobpomaaDoorPHistoryNewg
namespace Go.Proofs.YtiecgbmeobpomaaDoor
open Go.RowKit
set_option linter.unusedVariables false
set_option linter.unusedSimpArgs false

theorem elem_val : Elem Tryd.prog 123 4 40 := elem_of (by kernel_rfl)
theorem vals_ones (l : List Vl) : Ones (l.flatMap Vl.cells) := fun u hu => by
  obtain ⟨x, -, hu⟩ := List.mem_flatMap.1 hu
  unfold Vl.cells at hu
  simp only [List.mem_cons, List.not_mem_nil, or_false] at hu
  rcases hu with rfl | rfl | rfl | rfl <;> rfl
/-- append of values to a row. -/
theorem wpList_outV {W : World} {ops : Array Oper} {rest : List Oper} {o : Oper} {a : Act} {Q : Exit → Act → World → Prop} (hgd : o.guard = none) (s x : Operand)
    (ho : o.op = .call { callee := .builtin .append, args := #[s, x], argTypes := #[127, 127] })
    (v : Value) (l : List Vl) (hsv : a.eval s = v) (H : RowAt W 123 4 v l.length (l.flatMap Vl.cells)) (xv : Value) (m : List Vl) (hx : a.eval x = xv) (hxr : RowAt W 123 4 xv m.length (m.flatMap Vl.cells)) (hf : Few (l.length + m.length))
    (h : ∀ a1 n1 c1 w', RowAt w' 123 4 (.slice a1 n1 c1) (l ++ m).length ((l ++ m).flatMap Vl.cells) → Chg (fun k => v.ownBlock = some k) W w' → (∀ k, (Value.slice a1 n1 c1).ownBlock = some k → v.ownBlock = some k ∨ W.heap.size ≤ k) → wpList Tryd.prog ops Q rest (a.put o.dst (.slice a1 n1 c1)) w') :
    wpList Tryd.prog ops Q (o :: rest) a W := by
  refine list_append_rows hgd s x 127 ho 123 4 40 Tryd.underlying127 elem_val (by decide) v l.length _ hsv H xv m.length _ hx hxr (vals_ones m) (by have := hf.lt; unfold maxLen; omega) (by have := hf.lt; omega) ?_
  intro a1 n1 c1 w' hrow hchg hold
  refine h a1 n1 c1 w' ?_ hchg hold
  rw [List.length_append, List.flatMap_append]; exact hrow
def nod0 : Nod := ⟨0, 0, ⟨#[]⟩, [], []⟩
/-- The kids at even places, up to the j-th one. -/
def evN (l : List Int) (j : Nat) : List Int := (List.range j).map fun q => l.getD (2 * q) 0
theorem evN_succ (l : List Int) (j : Nat) : evN l (j + 1) = evN l j ++ [l.getD (2 * j) 0] := by
  unfold evN
  rw [List.range_succ, List.map_append]; rfl
def nodN (ns : List Nod) (k : Int) : Nod := ns.getD k.toNat nod0
def objN (ns : List Nod) (k : Int) : Bool := decide (10 ≤ (nodN ns k).kind)
def keyObjs (ns : List Nod) (l : List Int) : List Int := l.filter (objN ns)
def keyVals (ns : List Nod) (l : List Int) : List Vl := (l.filter fun k => !objN ns k).map fun k => valOf (nodN ns k)
noncomputable def keysB (ns : List Nod) (n : Nod) : Bool := diffB (keyObjs ns (evN n.kids ((n.kids.length + 1) / 2))) && diffB (keyVals ns (evN n.kids ((n.kids.length + 1) / 2)))
theorem NodFit.val {n : Nod} (h : NodFit n) : (valOf n).Fit := ⟨h.kind, h.int, by have := h.str; unfold maxLen; show n.str.size ≤ _; omega, by show I64 0; unfold I64; omega⟩
theorem RowAt.litV {W : World} (x : Vl) : RowAt (W.alloc (.cells #[.int .i64 x.kind, .int .i64 x.int, .string x.str, .int .i64 x.ref] 123)) 123 4 (.slice (some ⟨W.heap.size, 0, none⟩) 1 1) ([x] : List Vl).length ([x].flatMap Vl.cells) :=
  RowAt.lit (n := 1) (size := 4) [.int .i64 x.kind, .int .i64 x.int, .string x.str, .int .i64 x.ref] rfl (by simp [maxLen])
/-- The loop of keys. -/
structure KyI (w W : World) (ns : List Nod) (l : List Int) (j : Nat) (v1 v2 : Value) : Prop where
  row1 : RowAt W 3 1 v1 (keyObjs ns (evN l j)).length (intC (keyObjs ns (evN l j)))
  row2 : RowAt W 123 4 v2 (keyVals ns (evN l j)).length ((keyVals ns (evN l j)).flatMap Vl.cells)
  new1 : ∀ k, v1.ownBlock = some k → w.heap.size ≤ k
  new2 : ∀ k, v2.ownBlock = some k → w.heap.size ≤ k
  ne : ∀ k, v1.ownBlock = some k → ¬ v2.ownBlock = some k
  chg : Chg (fun _ => False) w W
theorem evN_len (l : List Int) (j : Nat) : (evN l j).length = j := by simp [evN]
theorem keyObjs_le (ns : List Nod) (l : List Int) : (keyObjs ns l).length ≤ l.length := List.length_filter_le ..
theorem keyVals_le (ns : List Nod) (l : List Int) : (keyVals ns l).length ≤ l.length := by unfold keyVals; rw [List.length_map]; exact List.length_filter_le ..
theorem KyI.still {w W W1 : World} {ns : List Nod} {l : List Int} {j : Nat} {v1 v2 : Value} (I : KyI w W ns l j v1 v2) (hc : Chg (fun _ => False) W W1) : KyI w W1 ns l j v1 v2 :=
  ⟨I.row1.chg hc (fun _ _ x => x), I.row2.chg hc (fun _ _ x => x), I.new1, I.new2, I.ne, I.chg.trans' hc⟩
theorem KyI.obj {w W W1 : World} {ns : List Nod} {l : List Int} {j : Nat} {v1 v2 v1' : Value} (I : KyI w W ns l j v1 v2) (hc : Chg (fun k => v1.ownBlock = some k) W W1) (ho : objN ns (l.getD (2 * j) 0) = true)
    (hr : RowAt W1 3 1 v1' (keyObjs ns (evN l j) ++ [l.getD (2 * j) 0]).length (intC (keyObjs ns (evN l j) ++ [l.getD (2 * j) 0]))) (hold : ∀ k, v1'.ownBlock = some k → v1.ownBlock = some k ∨ W.heap.size ≤ k) : KyI w W1 ns l (j + 1) v1' v2 := by
  have e1 : keyObjs ns (evN l (j + 1)) = keyObjs ns (evN l j) ++ [l.getD (2 * j) 0] := by
    rw [evN_succ]; unfold keyObjs; rw [List.filter_append, List.filter_cons, if_pos ho]; rfl
  have e2 : keyVals ns (evN l (j + 1)) = keyVals ns (evN l j) := by
    rw [evN_succ]; unfold keyVals; rw [List.filter_append, List.filter_cons, if_neg (by rw [ho]; decide), List.filter_nil, List.append_nil]
  refine ⟨by rw [e1]; exact hr, by rw [e2]; exact I.row2.chg hc (fun k hk x => I.ne k x hk), fun k hk => (hold k hk).elim (I.new1 k) (fun y => Nat.le_trans I.chg.size y), I.new2, fun k hk x => ?_, I.chg.trans hc (fun _ _ x => x) (fun k hk x => by have := I.new1 k x; omega)⟩
  rcases hold k hk with y | y
  · exact I.ne k y x
  · have := I.row2.lt k x; omega
theorem KyI.val {w W W1 : World} {ns : List Nod} {l : List Int} {j : Nat} {v1 v2 v2' : Value} (I : KyI w W ns l j v1 v2) (hc : Chg (fun k => v2.ownBlock = some k) W W1) (ho : objN ns (l.getD (2 * j) 0) = false)
    (hr : RowAt W1 123 4 v2' (keyVals ns (evN l j) ++ [valOf (nodN ns (l.getD (2 * j) 0))]).length ((keyVals ns (evN l j) ++ [valOf (nodN ns (l.getD (2 * j) 0))]).flatMap Vl.cells)) (hold : ∀ k, v2'.ownBlock = some k → v2.ownBlock = some k ∨ W.heap.size ≤ k) : KyI w W1 ns l (j + 1) v1 v2' := by
  have e1 : keyObjs ns (evN l (j + 1)) = keyObjs ns (evN l j) := by
    rw [evN_succ]; unfold keyObjs; rw [List.filter_append, List.filter_cons, if_neg (by rw [ho]; decide), List.filter_nil, List.append_nil]
  have e2 : keyVals ns (evN l (j + 1)) = keyVals ns (evN l j) ++ [valOf (nodN ns (l.getD (2 * j) 0))] := by
    rw [evN_succ]; unfold keyVals; rw [List.filter_append, List.filter_cons, if_pos (by rw [ho]; rfl), List.map_append]; rfl
  refine ⟨by rw [e1]; exact I.row1.chg hc (fun k hk x => I.ne k hk x), by rw [e2]; exact hr, I.new1, fun k hk => (hold k hk).elim (I.new2 k) (fun y => Nat.le_trans I.chg.size y), fun k hk x => ?_, I.chg.trans hc (fun _ _ x => x) (fun k hk x => by have := I.new2 k x; omega)⟩
  rcases hold k x with y | y
  · exact I.ne k hk y
  · have := I.row1.lt k hk; omega
set_option maxHeartbeats 6400000 in
set_option maxRecDepth 100000 in
theorem keys_any {D : Nat → Prop} (w : World) (m : Msg) (pn pp : Option Addr) (nn cn np cp : Nat) (hm : MsgAt D w (.slice pn nn cn) (.slice pp np cp) m) (hfit : ∀ x ∈ m.nodes, NodFit x) (n : Nod) (pk pd : Option Addr) (nk ck nd cd : Nat)
    (hk : SeenN D w 1 (.slice pd nd cd) n.kids.length (intC n.kids)) (hin : ∀ x ∈ n.kids, 0 ≤ x ∧ x < m.nodes.length) (hfew : n.kids.length ≤ 20000) :
    Calls Tryd.prog 69 #[.agg #[.slice pn nn cn, .slice pp np cp], .agg #[.int .i64 n.kind, .int .i64 n.int, .string n.str, .slice pk nk ck, .slice pd nd cd]] w fun e w' => e = .returned (.bool (keysB m.nodes n)) ∧ Chg (fun _ => False) w w' := by
  obtain ⟨rsN, hrl, hre, hrs⟩ := hm.ex
  have hnn : nn = rsN.length := by obtain ⟨_, _, e, -⟩ := hrs; cases e; rfl
  have hnd : nd = n.kids.length := by obtain ⟨_, _, e, -⟩ := hk; cases e; rfl
  have HC := Lib.hid ((Chg.alloc (fun _ => False) w (.cells #[.slice pn nn cn, .slice pp np cp] 32)).allocR (.cells #[.int .i64 n.kind, .int .i64 n.int, .string n.str, .slice pk nk ck, .slice pd nd cd] 85))
  have HB2 := Lib.hid (alloc_old (.cells #[.int .i64 n.kind, .int .i64 n.int, .string n.str, .slice pk nk ck, .slice pd nd cd] 85) (alloc_block w (.cells #[.slice pn nn cn, .slice pp np cp] 32)))
  have hb3 := alloc_block (w.alloc (.cells #[.slice pn nn cn, .slice pp np cp] 32)) (.cells #[.int .i64 n.kind, .int .i64 n.int, .string n.str, .slice pk nk ck, .slice pd nd cd] 85)
  rw [World.size_alloc] at hb3
  have HB3 := Lib.hid hb3
  have HRL := Lib.hid hrl
  have HRE := Lib.hid hre
  have HRS := Lib.hid hrs
  have HK := Lib.hid hk
  have HIN := Lib.hid hin
  have HFIT := Lib.hid hfit
  have HND := Lib.hid hnd
  have HNN := Lib.hid hnn
  have HFEW := Lib.hid hfew
  have hnd2 : (nd : Int) ≤ 20000 := by omega
  clear hm hfit hk hin hfew hrl hre hrs hnn hnd hb3
  go_enter Tryd.func69, Tryd.ntmps69
  go_upto_region 1 with fail
  generalize (w.alloc (.cells #[.slice pn nn cn, .slice pp np cp] 32)).alloc (.cells #[.int .i64 n.kind, .int .i64 n.int, .string n.str, .slice pk nk ck, .slice pd nd cd] 85) = w4 at *
  generalize w.heap.size + 1 = b3 at *
  generalize w.heap.size = b2 at *
  go_wp2_with fail
  go_loopw [5, 6, 7, 8] (fun u5 u6 u7 _ wr => ∃ (j p : Nat) (a1 : Option Addr) (n1 c1 : Nat) (a2 : Option Addr) (n2 c2 : Nat), p ≤ nd + 1 ∧ Hid (p = 2 * j) ∧ u5 = .slice a1 n1 c1 ∧ u6 = .slice a2 n2 c2 ∧ u7 = .int .i64 (p : Int) ∧ Hid (KyI w4 wr m.nodes n.kids j (.slice a1 n1 c1) (.slice a2 n2 c2))) (fun _ _ u7 _ _ => nd + 1 - (intOf u7).toNat)
  case atStart => exact ⟨0, 0, none, 0, 0, none, 0, 0, by omega, Lib.hid rfl, rfl, rfl, rfl, Lib.hid ⟨RowAt.nil _ _ _, RowAt.nil _ _ _, (fun k hk => by simp [Value.ownBlock] at hk), (fun k hk => by simp [Value.ownBlock] at hk), (fun k hk => by simp [Value.ownBlock] at hk), Chg.refl _ _⟩⟩
  case round =>
    obtain ⟨j, p, a1, n1, c1, a2, n2, c2, hj, HP, rfl, rfl, rfl, HI⟩ := hrel
    have l3 := cell_of_block (i := 4) (HI.out.chg.keep HB3.out (fun x => x)) rfl
    simp only [List.getElem_toArray, List.getElem_cons_zero, List.getElem_cons_succ] at l3
    by_cases hlt : p < nd
    · have k0 : (0 : Int) ≤ (p : Int) := by omega
      have k1 : (p : Int) < (nd : Int) := by omega
      have w64 : IntKind.i64.wrap ((p : Int) + 2) = ((p + 2 : Nat) : Int) := IntWalk.i64_in _ (by omega)
      have hpj := HP.out
      have hd := HND.out
      have hmem : n.kids[p]'(by omega) ∈ n.kids := List.getElem_mem _
      obtain ⟨hi0, hi1⟩ := HIN.out _ hmem
      have hgd : n.kids.getD (2 * j) 0 = n.kids[p]'(by omega) := by rw [← hpj, List.getD_eq_getElem?_getD, List.getElem?_eq_getElem (by omega)]; rfl
      obtain ⟨g2, off2, cd', hv2, -, -, hc2⟩ := HK.out.at (by omega)
      cases hv2
      have q2 := hc2 p (.int .i64 (n.kids[p]'(by omega))) (by rw [intC, List.getElem?_map, List.getElem?_eq_getElem (by omega)]; rfl)
      rw [← hgd] at q2 hi0 hi1
      obtain ⟨kn, hkn⟩ : ∃ kn : Nat, n.kids.getD (2 * j) 0 = (kn : Int) := ⟨(n.kids.getD (2 * j) 0).toNat, by omega⟩
      rw [hkn] at q2 hi0 hi1
      have hkl : kn < m.nodes.length := by omega
      have hkr : kn < rsN.length := by rw [HRL.out]; exact hkl
      obtain ⟨g, off, cn', hv1, -, -, hc1⟩ := HRS.out.at (by omega)
      cases hv1
      have hat := HRE.out kn hkr hkl
      have hnx : nodN m.nodes (n.kids.getD (2 * j) 0) = m.nodes[kn] := by
        unfold nodN
        rw [hkn, List.getD_eq_getElem?_getD, show ((kn : Int)).toNat = kn by omega, List.getElem?_eq_getElem hkl]; rfl
      have hfx := HFIT.out _ (List.getElem_mem hkl)
      obtain ⟨xp, xc, hxk, -, -⟩ := hat.keys.val
      obtain ⟨yp, yc, hxd, -, -⟩ := hat.kids.val
      have hcel : ∀ c u, (rsN[kn]).cells[c]? = some u → c < 5 → w.cell? ⟨g, off + kn * 5 + c, none⟩ = some u := fun c u hu hcc => by
        rw [Nat.add_assoc]
        exact hc1 (kn * 5 + c) u (by rw [flat_get _ 5 NodR.len rsN kn c hkr hcc]; exact hu)
      have hrc : rsN[kn].cells = [.int .i64 m.nodes[kn].kind, .int .i64 m.nodes[kn].int, .string m.nodes[kn].str, .slice xp m.nodes[kn].keys.length xc, .slice yp m.nodes[kn].kids.length yc] := by
        unfold NodR.cells
        rw [hat.kind, hat.int, hat.str, hxk, hxd]
      rw [hrc] at hcel
      have HOB := Lib.hid (show objN m.nodes (n.kids.getD (2 * j) 0) = decide (10 ≤ m.nodes[kn].kind) by unfold objN; rw [hnx])
      have HVN := Lib.hid (show valOf (nodN m.nodes (n.kids.getD (2 * j) 0)) = valOf m.nodes[kn] by rw [hnx])
      have HKN := Lib.hid hkn
      have hN5 : (kn : Int) < (rsN.length : Int) := by omega
      have kn0 : (0 : Int) ≤ (kn : Int) := by omega
      clear hat hnx hfx hxk hxd hrc hmem hgd
      generalize m.nodes[kn] = x at *
      generalize x.keys.length = xn at *
      generalize x.kids.length = yn at *
      have hcw := HC.out.trans' HI.out.chg
      have HS0 : Hid (wr.cell? ⟨b2, 0, none⟩ = some (.slice (some ⟨g, off, none⟩) rsN.length cn) ∧ wr.cell? ⟨b3, 4, none⟩ = some (.slice (some ⟨g2, off2, none⟩) n.kids.length cd) ∧ wr.cell? ⟨g2, off2 + p, none⟩ = some (.int .i64 (kn : Int)) ∧ wr.cell? ⟨g, off + kn * 5, none⟩ = some (.int .i64 x.kind) ∧ wr.cell? ⟨g, off + kn * 5 + 1, none⟩ = some (.int .i64 x.int) ∧ wr.cell? ⟨g, off + kn * 5 + 2, none⟩ = some (.string x.str) ∧ wr.cell? ⟨g, off + kn * 5 + 3, none⟩ = some (.slice xp xn xc) ∧ wr.cell? ⟨g, off + kn * 5 + 4, none⟩ = some (.slice yp yn yc)) := Lib.hid ⟨cell_of_block (i := 0) (HI.out.chg.keep HB2.out (fun x => x)) rfl, l3, hcw.cell q2, hcw.cell (by have := hcel 0 _ rfl (by omega); rwa [Nat.add_zero] at this), hcw.cell (hcel 1 _ rfl (by omega)), hcw.cell (hcel 2 _ rfl (by omega)), hcw.cell (hcel 3 _ rfl (by omega)), hcw.cell (hcel 4 _ rfl (by omega))⟩
      have HJ : Hid (p + 2 ≤ n.kids.length + 1) := Lib.hid (by omega)
      have HPN : Hid (p + 2 = 2 * (j + 1)) := Lib.hid (by omega)
      have HJL : Hid (j ≤ 10000) := Lib.hid (by omega)
      clear hcw hcel hc1 hc2 q2 hkl hkr hj hlt hi0 hi1 hd hkn hpj
      go_upto_region 6 with fail
      refine wp_region_held_split 10 (fun w' => w'.cell? ⟨b2, 0, none⟩ = some (.slice (some ⟨g, off, none⟩) rsN.length cn) ∧ w'.cell? ⟨b3, 4, none⟩ = some (.slice (some ⟨g2, off2, none⟩) n.kids.length cd) ∧ w'.cell? ⟨g2, off2 + p, none⟩ = some (.int .i64 (kn : Int)) ∧ w'.cell? ⟨g, off + kn * 5, none⟩ = some (.int .i64 x.kind) ∧ w'.cell? ⟨g, off + kn * 5 + 1, none⟩ = some (.int .i64 x.int) ∧ w'.cell? ⟨g, off + kn * 5 + 2, none⟩ = some (.string x.str) ∧ w'.cell? ⟨g, off + kn * 5 + 3, none⟩ = some (.slice xp xn xc) ∧ w'.cell? ⟨g, off + kn * 5 + 4, none⟩ = some (.slice yp yn yc)) (by kernel_rfl) (by kernel_rfl) ?_ (fun hHeld => ?_)
      · (first | exact HS0.out | exact HKS.out _ (Chg.refl _ _) | exact HKS.out _ (Chg.alloc _ _ _))
      simp only [List.take_succ_cons, List.take_zero]
      have HKS : Hid (∀ W, Chg (fun _ => False) wr.drew W → W.cell? ⟨b2, 0, none⟩ = some (.slice (some ⟨g, off, none⟩) rsN.length cn) ∧ W.cell? ⟨b3, 4, none⟩ = some (.slice (some ⟨g2, off2, none⟩) n.kids.length cd) ∧ W.cell? ⟨g2, off2 + p, none⟩ = some (.int .i64 (kn : Int)) ∧ W.cell? ⟨g, off + kn * 5, none⟩ = some (.int .i64 x.kind) ∧ W.cell? ⟨g, off + kn * 5 + 1, none⟩ = some (.int .i64 x.int) ∧ W.cell? ⟨g, off + kn * 5 + 2, none⟩ = some (.string x.str) ∧ W.cell? ⟨g, off + kn * 5 + 3, none⟩ = some (.slice xp xn xc) ∧ W.cell? ⟨g, off + kn * 5 + 4, none⟩ = some (.slice yp yn yc)) := Lib.hid (fun W hc => ⟨hc.cell HS0.out.1, hc.cell HS0.out.2.1, hc.cell HS0.out.2.2.1, hc.cell HS0.out.2.2.2.1, hc.cell HS0.out.2.2.2.2.1, hc.cell HS0.out.2.2.2.2.2.1, hc.cell HS0.out.2.2.2.2.2.2.1, hc.cell HS0.out.2.2.2.2.2.2.2⟩)
      have HWD : Hid (Chg (fun _ => False) wr wr.drew) := Lib.hid (Chg.refl _ wr).drewR
      generalize hwd : wr.drew = wD at *
      refine wpAnyH_take (i := 0) (v := ?_) rfl (by kernel_rfl) (by kernel_rfl) (by kernel_rfl) (fun _ _ _ h => h) (Or.inl ⟨by rfl, ?_⟩) (by assumption) ?_
      rotate_left
      · (intro wq hSw; (try dsimp only at hSw); go_simp; (try with_reducible rfl))
      simp only [Act.put, List.getElem_toArray, List.getElem_cons_zero, List.getElem_cons_succ, List.setIfInBounds_toArray, List.set_cons_zero, List.set_cons_succ]
      refine wpAnyH_take (i := 1) (v := ?_) rfl (by kernel_rfl) (by kernel_rfl) (by kernel_rfl) (fun _ _ _ h => h) (Or.inl ⟨by rfl, ?_⟩) (by assumption) ?_
      rotate_left
      · (intro wq hSw; (try dsimp only at hSw); go_simp; (try with_reducible rfl))
      simp only [Act.put, List.getElem_toArray, List.getElem_cons_zero, List.getElem_cons_succ, List.setIfInBounds_toArray, List.set_cons_zero, List.set_cons_succ]
      refine wpAnyH_take (i := 2) (v := ?_) rfl (by kernel_rfl) (by kernel_rfl) (by kernel_rfl) (fun _ _ _ h => h) (Or.inl ⟨by rfl, ?_⟩) (by assumption) ?_
      rotate_left
      · (intro wq hSw; (try dsimp only at hSw); go_simp; (try with_reducible rfl))
      simp only [Act.put, List.getElem_toArray, List.getElem_cons_zero, List.getElem_cons_succ, List.setIfInBounds_toArray, List.set_cons_zero, List.set_cons_succ]
      refine wpAnyH_take (i := 3) (v := ?_) rfl (by kernel_rfl) (by kernel_rfl) (by kernel_rfl) (fun _ _ _ h => h) (Or.inl ⟨by rfl, ?_⟩) (by assumption) ?_
      rotate_left
      · (intro wq hSw; (try dsimp only at hSw); go_simp; (try with_reducible rfl))
      simp only [Act.put, List.getElem_toArray, List.getElem_cons_zero, List.getElem_cons_succ, List.setIfInBounds_toArray, List.set_cons_zero, List.set_cons_succ]
      refine wpAnyH_take (i := 4) (v := ?_) rfl (by kernel_rfl) (by kernel_rfl) (by kernel_rfl) (fun _ _ _ h => h) (Or.inl ⟨by rfl, ?_⟩) (by assumption) ?_
      rotate_left
      · (intro wq hSw; (try dsimp only at hSw); go_simp; (try with_reducible rfl))
      simp only [Act.put, List.getElem_toArray, List.getElem_cons_zero, List.getElem_cons_succ, List.setIfInBounds_toArray, List.set_cons_zero, List.set_cons_succ]
      refine wpAnyH_take (i := 5) (v := ?_) rfl (by kernel_rfl) (by kernel_rfl) (by kernel_rfl) (fun _ _ _ h => h) (Or.inl ⟨by rfl, ?_⟩) (by assumption) ?_
      rotate_left
      · (intro wq hSw; (try dsimp only at hSw); go_simp; (try with_reducible rfl))
      simp only [Act.put, List.getElem_toArray, List.getElem_cons_zero, List.getElem_cons_succ, List.setIfInBounds_toArray, List.set_cons_zero, List.set_cons_succ]
      refine wpAnyH_take (i := 6) (v := ?_) rfl (by kernel_rfl) (by kernel_rfl) (by kernel_rfl) (fun _ _ _ h => h) (Or.inl ⟨by rfl, ?_⟩) (by assumption) ?_
      rotate_left
      · (intro wq hSw; (try dsimp only at hSw); go_simp; (try with_reducible rfl))
      simp only [Act.put, List.getElem_toArray, List.getElem_cons_zero, List.getElem_cons_succ, List.setIfInBounds_toArray, List.set_cons_zero, List.set_cons_succ]
      refine wpAnyH_take (i := 7) (v := ?_) rfl (by kernel_rfl) (by kernel_rfl) (by kernel_rfl) (fun _ _ _ h => h) (Or.inl ⟨by rfl, ?_⟩) (by assumption) ?_
      rotate_left
      · (intro wq hSw; (try dsimp only at hSw); go_simp; (try with_reducible rfl))
      simp only [Act.put, List.getElem_toArray, List.getElem_cons_zero, List.getElem_cons_succ, List.setIfInBounds_toArray, List.set_cons_zero, List.set_cons_succ]
      refine wpAnyH_take (i := 8) (v := ?_) rfl (by kernel_rfl) (by kernel_rfl) (by kernel_rfl) (fun _ _ _ h => h) (Or.inl ⟨by rfl, ?_⟩) (by assumption) ?_
      rotate_left
      · (intro wq hSw; (try dsimp only at hSw); go_simp; (try with_reducible rfl))
      simp only [Act.put, List.getElem_toArray, List.getElem_cons_zero, List.getElem_cons_succ, List.setIfInBounds_toArray, List.set_cons_zero, List.set_cons_succ]
      refine wpAnyH_ready (rs := [9]) (by kernel_rfl) (by simp) ?_
      refine AllReadyH.cons (by simp only [List.getElem?_toArray, List.getElem?_cons_succ, List.getElem?_cons_zero]; rfl) (fun K hK => ?_) AllReadyH.nil
      go_simp
      refine hK.out _ _ ?_ (fun hHeld => ?_)
      · (first | exact HS0.out | exact HKS.out _ (Chg.refl _ _) | exact HKS.out _ (Chg.alloc _ _ _))
      clear hK K
      (try simp only [Act.put, List.getElem_toArray, List.getElem_cons_zero, List.getElem_cons_succ, List.setIfInBounds_toArray, List.set_cons_zero, List.set_cons_succ])
      refine wpAnyH_done (by kernel_rfl) ?_ _
      change wpList _ _ _ _ _ _
      simp only [List.drop_succ_cons, List.drop_zero]
      have HWD2 := HWD
      go_upto_region 7 with fail
      have HA := Lib.hid (HWD.out.allocR (.cells #[.int .i64 x.kind, .int .i64 x.int, .string x.str, .slice xp xn xc, .slice yp yn yc] 85))
      have hb8 := alloc_block wD (.cells #[.int .i64 x.kind, .int .i64 x.int, .string x.str, .slice xp xn xc, .slice yp yn yc] 85)
      have HB8 := Lib.hid hb8
      have HI6 := Lib.hid (HI.out.still HA.out)
      have hs := HKS.out _ (Chg.alloc _ wD (.cells #[.int .i64 x.kind, .int .i64 x.int, .string x.str, .slice xp xn xc, .slice yp yn yc] 85))
      obtain ⟨s0, s1, s2, -⟩ := hs
      clear hb8 HKS HS0 hHeld hwd l3
      generalize wD.alloc (.cells #[.int .i64 x.kind, .int .i64 x.int, .string x.str, .slice xp xn xc, .slice yp yn yc] 85) = w6 at *
      generalize wD.heap.size = b8 at *
      have e0 := cell_of_block (i := 0) HB8.out rfl
      have e1 := cell_of_block (i := 1) HB8.out rfl
      have e2 := cell_of_block (i := 2) HB8.out rfl
      simp only [List.getElem_toArray, List.getElem_cons_zero, List.getElem_cons_succ] at e0 e1 e2
      have HLO : Hid ((keyObjs m.nodes (evN n.kids j)).length ≤ 10000 ∧ (keyVals m.nodes (evN n.kids j)).length ≤ 10000) := Lib.hid ⟨by have := keyObjs_le m.nodes (evN n.kids j); have := evN_len n.kids j; have := HJL.out; omega, by have := keyVals_le m.nodes (evN n.kids j); have := evN_len n.kids j; have := HJL.out; omega⟩
      by_cases h10 : 10 ≤ x.kind
      · have HO : Hid (objN m.nodes (n.kids.getD (2 * j) 0) = true) := Lib.hid (by rw [HOB.out]; exact decide_eq_true h10)
        go_wp2_with (at_builtin; refine wpList_outR rfl (.tmp 28) (.tmp 34) rfl _ _ rfl (HI6.out.row1.alloc _) _ [(kn : Int)] rfl (RowAt.lit [.int .i64 (kn : Int)] rfl (by simp [maxLen])) (⟨by have := HLO.out.1; simp only [List.length_cons, List.length_nil]; omega⟩ : Few _) ?_; intro a7 n7 c7 w7 hrow7 hch7 hold7)
        go_roundw
        case rel =>
          refine ⟨j + 1, p + 2, a7, n7, c7, a2, n2, c2, HJ.out, HPN, rfl, rfl, rfl, Lib.hid (HI6.out.obj ((Chg.alloc (fun _ => False) w6 _).trans hch7 (fun _ _ x => x.elim) (fun _ _ x => x)) HO.out (by rw [HKN.out]; exact hrow7) (fun k hk => (hold7 k hk).imp id (fun y => by rw [World.size_alloc] at y; omega)))⟩
        case measure => have := HJ.out; simp [intOf, w64]; omega
      · have HO : Hid (objN m.nodes (n.kids.getD (2 * j) 0) = false) := Lib.hid (by rw [HOB.out]; exact decide_eq_false h10)
        go_wp2_with (at_builtin; refine wpList_outV rfl (.tmp 36) (.tmp 44) rfl _ _ rfl (HI6.out.row2.alloc _) _ [valOf x] rfl (RowAt.litV (valOf x)) (⟨by have := HLO.out.2; simp only [List.length_cons, List.length_nil]; omega⟩ : Few _) ?_; intro a7 n7 c7 w7 hrow7 hch7 hold7)
        go_roundw
        case rel =>
          refine ⟨j + 1, p + 2, a1, n1, c1, a7, n7, c7, HJ.out, HPN, rfl, rfl, rfl, Lib.hid (HI6.out.val ((Chg.alloc (fun _ => False) w6 _).trans hch7 (fun _ _ x => x.elim) (fun _ _ x => x)) HO.out (by rw [HVN.out]; exact hrow7) (fun k hk => (hold7 k hk).imp id (fun y => by rw [World.size_alloc] at y; omega)))⟩
        case measure => have := HJ.out; simp [intOf, w64]; omega
    · have i1 : ¬ (p : Int) < (nd : Int) := by omega
      have hje : j = (n.kids.length + 1) / 2 := by have := HND.out; have := HP.out; omega
      have HJE := Lib.hid hje
      have HDI := Lib.hid (distinctI_any (D := fun _ => False) wr _ _ (SeenN.ofRow HI.out.row1 (fun _ _ x => x)) ⟨by have := keyObjs_le m.nodes (evN n.kids j); have := evN_len n.kids j; have := HFEW.out; omega⟩ (fun x hx => by
        have h1 := (List.mem_filter.1 hx).1
        obtain ⟨q, hq, rfl⟩ := List.mem_map.1 h1
        have hq2 := List.mem_range.1 hq
        by_cases hql : 2 * q < n.kids.length
        · have := HIN.out (n.kids.getD (2 * q) 0) (by rw [List.getD_eq_getElem?_getD, List.getElem?_eq_getElem hql]; exact List.getElem_mem hql)
          have hl : m.nodes.length ≤ 9223372036854775807 := by
            have h5 := HRS.out
            obtain ⟨_, _, -, h6, h7, -⟩ := h5
            have := HRL.out
            unfold maxLen at h7
            omega
          unfold I64; omega
        · have := HND.out
          have := HP.out
          omega))
      have HDV := Lib.hid (fun W (hc : Chg (fun _ => False) wr W) => distinctV_any (D := fun _ => False) W _ _ (SeenN.ofRow (HI.out.row2.chg hc (fun _ _ x => x)) (fun _ _ x => x)) ⟨by have := keyVals_le m.nodes (evN n.kids j); have := evN_len n.kids j; have := HFEW.out; omega⟩ (fun x hx => by
        obtain ⟨q, hq, rfl⟩ := List.mem_map.1 hx
        unfold nodN
        by_cases hql : q.toNat < m.nodes.length
        · rw [List.getD_eq_getElem?_getD, List.getElem?_eq_getElem hql]
          exact (HFIT.out _ (List.getElem_mem hql)).val
        · rw [List.getD_eq_getElem?_getD, List.getElem?_eq_none (by omega)]
          exact ⟨by show I64 0; unfold I64; omega, by show I64 0; unfold I64; omega, by show 0 ≤ maxLen; omega, by show I64 0; unfold I64; omega⟩))
      have HRES : Hid (keysB m.nodes n = (diffB (keyObjs m.nodes (evN n.kids j)) && diffB (keyVals m.nodes (evN n.kids j)))) := Lib.hid (by unfold keysB; rw [HJE.out])
      have HCH := Lib.hid (HC.out.trans' HI.out.chg)
      generalize keyObjs m.nodes (evN n.kids j) = L1 at *
      generalize keyVals m.nodes (evN n.kids j) = L2 at *
      clear hj hje
      generalize hb1 : diffB L1 = q1 at *
      cases q1 with
      | false =>
        go_wp2_with (go_at_call 66; refine HDI.out.mono ?_; rintro _ w5 ⟨rfl, hc5⟩; have HC5 := Lib.hid hc5; clear hc5)
        go_ret
        exact ⟨by rw [HRES.out]; rfl, HCH.out.trans' HC5.out⟩
      | true =>
        go_wp2_with (first | (go_at_call 66; refine HDI.out.mono ?_; rintro _ w5 ⟨rfl, hc5⟩; have HC5 := Lib.hid hc5; clear hc5) | (go_at_call 88; refine (HDV.out _ HC5.out).mono ?_; rintro _ w6 ⟨rfl, hc6⟩; have HC6 := Lib.hid hc6; clear hc6))
        go_ret
        exact ⟨by rw [HRES.out]; rfl, HCH.out.trans' (HC5.out.trans' HC6.out)⟩
end Go.Proofs.YtiecgbmeobpomaaDoor
namespace Go.Proofs.YtiecgbmeobpomaaDoor
open Go.RowKit
set_option linter.unusedVariables false
set_option linter.unusedSimpArgs false

def kidsM (v : Int → Nat → Nat → Option (Nat × Nat)) : List Int → Nat → Nat → Option (Nat × Nat)
  | [], nx, pt => some (nx, pt)
  | k :: ks, nx, pt => match v k nx pt with
    | none => none
    | some r => kidsM v ks r.1 r.2
open Classical in
noncomputable def visitStep (ns : List Nod) (rec : Int → Nat → Nat → Option (Nat × Nat)) (i : Int) (nx pt : Nat) : Option (Nat × Nat) :=
  if i < 0 ∨ (nx : Int) < i ∨ (ns.length : Int) ≤ i then none
  else if i < nx then (if 10 ≤ (nodN ns i).kind then some (nx, pt) else none)
  else if ¬ formedB (nodN ns i) = true then none
  else if (nodN ns i).kind = 14 then (if (nodN ns i).int = pt then some (nx + 1, pt + 1) else none)
  else match kidsM rec (nodN ns i).kids (nx + 1) pt with
    | none => none
    | some r => if (nodN ns i).kind ≠ 12 ∨ keysB ns (nodN ns i) = true then some r else none
noncomputable def visitM (ns : List Nod) : Nat → Int → Nat → Nat → Option (Nat × Nat)
  | 0 => visitStep ns (fun _ _ _ => none)
  | f + 1 => visitStep ns (visitM ns f)
/-- The closure's boxes: the next node, the message, the ports, the closure itself. -/
structure VaS (w : World) (bn bm bp bv : Nat) (vn vp : Value) (W : World) (nx pt : Nat) : Prop where
  n : W.heap[bn]? = some (.cells #[.int .i64 (nx : Int)] 3 (0, 0))
  m : W.heap[bm]? = some (.cells #[vn, vp] 32 (0, 0))
  p : W.heap[bp]? = some (.cells #[.int .i64 (pt : Int)] 3 (0, 0))
  v : W.heap[bv]? = some (.cells #[.func (.func 67) #[] #[.pointer (some ⟨bn, 0, none⟩), .pointer (some ⟨bm, 0, none⟩), .pointer (some ⟨bp, 0, none⟩), .pointer (some ⟨bv, 0, none⟩)]] 81 (0, 0))
  lo : w.heap.size ≤ bn ∧ w.heap.size ≤ bp ∧ bn ≠ bm ∧ bn ≠ bp ∧ bn ≠ bv ∧ bp ≠ bm ∧ bp ≠ bv
  chg : Chg (fun _ => False) w W
section
variable {w W W1 : World} {bn bm bp bv : Nat} {vn vp : Value} {nx pt : Nat}
theorem VaS.still (h : VaS w bn bm bp bv vn vp W nx pt) (hc : Chg (fun _ => False) W W1) : VaS w bn bm bp bv vn vp W1 nx pt :=
  ⟨hc.keep h.n (fun x => x), hc.keep h.m (fun x => x), hc.keep h.p (fun x => x), hc.keep h.v (fun x => x), h.lo, h.chg.trans' hc⟩
theorem VaS.next (h : VaS w bn bm bp bv vn vp W nx pt) : VaS w bn bm bp bv vn vp (W.setCell ⟨bn, 0, none⟩ (.int .i64 ((nx + 1 : Nat) : Int))) (nx + 1) pt := by
  have hc : Chg (fun k => k = bn) W (W.setCell ⟨bn, 0, none⟩ (.int .i64 ((nx + 1 : Nat) : Int))) := Chg.setCell W ⟨bn, 0, none⟩ _
  have hb := setCell_block (i := 0) (.int .i64 ((nx + 1 : Nat) : Int)) h.n
  obtain ⟨l1, l2, l3, l4, l5, l6, l7⟩ := h.lo
  exact ⟨by simpa using hb, hc.keep h.m (fun e => l3 e.symm), hc.keep h.p (fun e => l4 e.symm), hc.keep h.v (fun e => l5 e.symm), h.lo, h.chg.trans hc (fun _ _ x => x) (fun k hk x => by have : k = bn := x; omega)⟩
theorem VaS.port (h : VaS w bn bm bp bv vn vp W nx pt) : VaS w bn bm bp bv vn vp (W.setCell ⟨bp, 0, none⟩ (.int .i64 ((pt + 1 : Nat) : Int))) nx (pt + 1) := by
  have hc : Chg (fun k => k = bp) W (W.setCell ⟨bp, 0, none⟩ (.int .i64 ((pt + 1 : Nat) : Int))) := Chg.setCell W ⟨bp, 0, none⟩ _
  have hb := setCell_block (i := 0) (.int .i64 ((pt + 1 : Nat) : Int)) h.p
  obtain ⟨l1, l2, l3, l4, l5, l6, l7⟩ := h.lo
  exact ⟨hc.keep h.n (fun e => l4 e), hc.keep h.m (fun e => l6 e.symm), by simpa using hb, hc.keep h.v (fun e => l7 e.symm), h.lo, h.chg.trans hc (fun _ _ x => x) (fun k hk x => by have : k = bp := x; omega)⟩
end
/-- What a visit leaves. -/
def VaP (w : World) (bn bm bp bv : Nat) (vn vp : Value) (N nx : Nat) (W w' : World) (r : Option (Nat × Nat)) : Prop :=
  Chg (fun k => k = bn ∨ k = bp) W w' ∧ ∀ q, r = some q → VaS w bn bm bp bv vn vp w' q.1 q.2 ∧ nx ≤ q.1 ∧ q.1 ≤ N ∧ q.2 ≤ q.1
theorem kidsM_range {ns : List Nod} {f : Nat} : ∀ (ks : List Int) (nx pt : Nat) (r : Nat × Nat), kidsM (visitM ns f) ks nx pt = some r → ∀ k ∈ ks, 0 ≤ k ∧ k < ns.length
  | [], nx, pt, r, h, k, hk => by cases hk
  | a :: ks, nx, pt, r, h, k, hk => by
    rw [kidsM] at h
    cases hv : visitM ns f a nx pt with
    | none => rw [hv] at h; cases h
    | some q =>
      rw [hv] at h
      rcases List.mem_cons.1 hk with e | e
      · subst e
        have : ¬ (k < 0 ∨ (nx : Int) < k ∨ (ns.length : Int) ≤ k) := fun hn => by
          cases f <;> (rw [visitM, visitStep, if_pos hn] at hv; cases hv)
        omega
      · exact kidsM_range ks q.1 q.2 r h k e
theorem visitM_out {ns : List Nod} {f : Nat} {i : Int} {nx pt : Nat} (h : i < 0 ∨ (nx : Int) < i ∨ (ns.length : Int) ≤ i) : visitM ns f i nx pt = none := by
  cases f <;> rw [visitM, visitStep, if_pos h]
theorem visitM_old {ns : List Nod} {f : Nat} {i : Int} {nx pt : Nat} (h : ¬ (i < 0 ∨ (nx : Int) < i ∨ (ns.length : Int) ≤ i)) (hl : i < nx) : visitM ns f i nx pt = if 10 ≤ (nodN ns i).kind then some (nx, pt) else none := by
  cases f <;> rw [visitM, visitStep, if_neg h, if_pos hl]
set_option maxHeartbeats 3200000 in
set_option maxRecDepth 100000 in
theorem visit_out (w : World) (bn bm bp bv : Nat) (pn pp : Option Addr) (nn cn np cp : Nat) (D : Nat → Prop) (m : Msg) (hm : MsgAt D w (.slice pn nn cn) (.slice pp np cp) m) (hfit : ∀ x ∈ m.nodes, NodFit x) (hU : Lib.Utf8Tabs 0 1 w) (hN : m.nodes.length ≤ 10000) (f : Nat) (i : Int) (nx pt : Nat) (W : World) (hS : VaS w bn bm bp bv (.slice pn nn cn) (.slice pp np cp) W nx pt) (hpt : pt ≤ nx) (hnx : nx ≤ m.nodes.length) (ho : i < 0 ∨ (nx : Int) < i ∨ (m.nodes.length : Int) ≤ i) :
    Calls Tryd.prog 67 #[.int .i64 i, .pointer (some ⟨bn, 0, none⟩), .pointer (some ⟨bm, 0, none⟩), .pointer (some ⟨bp, 0, none⟩), .pointer (some ⟨bv, 0, none⟩)] W fun e w' => e = .returned (.bool (visitM m.nodes f i nx pt).isSome) ∧ VaP w bn bm bp bv (.slice pn nn cn) (.slice pp np cp) m.nodes.length nx W w' (visitM m.nodes f i nx pt) := by
  rw [visitM_out ho]
  have c0 := cell_of_block (i := 0) hS.n rfl
  have c1 := cell_of_block (i := 0) hS.m rfl
  simp only [List.getElem_toArray, List.getElem_cons_zero, List.getElem_cons_succ] at c0 c1
  have hnn : nn = m.nodes.length := by
    obtain ⟨⟨rsN, hrl, -, hrs⟩, -⟩ := hm
    obtain ⟨_, _, e, -⟩ := hrs
    cases e
    exact hrl
  rw [← hnn] at ho
  have HP : Hid (VaP w bn bm bp bv (.slice pn nn cn) (.slice pp np cp) m.nodes.length nx W W none) := Lib.hid ⟨Chg.refl _ _, fun q hq => by cases hq⟩
  clear hS hm hfit hU hnn hN hnx hpt
  by_cases o1 : i < 0
  · clear ho
    go_enter Tryd.func67, Tryd.ntmps67
    go_wp2_with fail
    go_ret
    exact ⟨rfl, HP.out⟩
  · by_cases o2 : (nx : Int) < i
    · clear ho
      go_enter Tryd.func67, Tryd.ntmps67
      go_wp2_with fail
      go_ret
      exact ⟨rfl, HP.out⟩
    · have o3 : (nn : Int) ≤ i := by omega
      clear ho
      go_enter Tryd.func67, Tryd.ntmps67
      go_wp2_with fail
      go_ret
      exact ⟨rfl, HP.out⟩
set_option maxHeartbeats 3200000 in
set_option maxRecDepth 100000 in
theorem visit_old (w : World) (bn bm bp bv : Nat) (pn pp : Option Addr) (nn cn np cp : Nat) (D : Nat → Prop) (m : Msg) (hm : MsgAt D w (.slice pn nn cn) (.slice pp np cp) m) (hfit : ∀ x ∈ m.nodes, NodFit x) (hU : Lib.Utf8Tabs 0 1 w) (hN : m.nodes.length ≤ 10000) (f q : Nat) (nx pt : Nat) (W : World) (hS : VaS w bn bm bp bv (.slice pn nn cn) (.slice pp np cp) W nx pt) (hpt : pt ≤ nx) (hnx : nx ≤ m.nodes.length) (hq : q < m.nodes.length) (hlt : q < nx) :
    Calls Tryd.prog 67 #[.int .i64 (q : Int), .pointer (some ⟨bn, 0, none⟩), .pointer (some ⟨bm, 0, none⟩), .pointer (some ⟨bp, 0, none⟩), .pointer (some ⟨bv, 0, none⟩)] W fun e w' => e = .returned (.bool (visitM m.nodes f (q : Int) nx pt).isSome) ∧ VaP w bn bm bp bv (.slice pn nn cn) (.slice pp np cp) m.nodes.length nx W w' (visitM m.nodes f (q : Int) nx pt) := by
  rw [visitM_old (by omega) (by omega)]
  have c0 := cell_of_block (i := 0) hS.n rfl
  have c1 := cell_of_block (i := 0) hS.m rfl
  simp only [List.getElem_toArray, List.getElem_cons_zero, List.getElem_cons_succ] at c0 c1
  have hnn : nn = m.nodes.length := by
    obtain ⟨⟨rsN, hrl, -, hrs⟩, -⟩ := hm
    obtain ⟨_, _, e, -⟩ := hrs
    cases e
    exact hrl
  obtain ⟨rsN, hrl, hre, hrs⟩ := hm.ex
  have hkr : q < rsN.length := by rw [hrl]; exact hq
  obtain ⟨g, off, cn', hv1, -, -, hc1⟩ := hrs.at (by omega)
  have hat := hre q hkr hq
  have hnx' : nodN m.nodes (q : Int) = m.nodes[q] := by
    unfold nodN
    rw [List.getD_eq_getElem?_getD, show ((q : Int)).toNat = q by omega, List.getElem?_eq_getElem hq]; rfl
  have hfx := hfit _ (List.getElem_mem hq)
  obtain ⟨xp, xc, hxk, -, -⟩ := hat.keys.val
  obtain ⟨yp, yc, hxd, -, -⟩ := hat.kids.val
  have hcel : ∀ c u, (rsN[q]).cells[c]? = some u → c < 5 → w.cell? ⟨g, off + q * 5 + c, none⟩ = some u := fun c u hu hcc => by
    rw [Nat.add_assoc]
    exact hc1 (q * 5 + c) u (by rw [flat_get _ 5 NodR.len rsN q c hkr hcc]; exact hu)
  have hrc : rsN[q].cells = [.int .i64 m.nodes[q].kind, .int .i64 m.nodes[q].int, .string m.nodes[q].str, .slice xp m.nodes[q].keys.length xc, .slice yp m.nodes[q].kids.length yc] := by
    unfold NodR.cells
    rw [hat.kind, hat.int, hat.str, hxk, hxd]
  rw [hrc] at hcel
  have hK := hat.keys
  have hD := hat.kids
  rw [hxk] at hK
  rw [hxd] at hD
  rw [hnx'] at *
  generalize m.nodes[q] = x at *
  have e0 := hS.chg.cell (hcel 0 _ rfl (by omega))
  have e1 := hS.chg.cell (hcel 1 _ rfl (by omega))
  have e2 := hS.chg.cell (hcel 2 _ rfl (by omega))
  have e3 := hS.chg.cell (hcel 3 _ rfl (by omega))
  have e4 := hS.chg.cell (hcel 4 _ rfl (by omega))
  rw [Nat.add_zero] at e0
  have HP := Lib.hid (fun W' (hc : Chg (fun _ => False) W W') r (hr : r = some (nx, pt) ∨ r = none) => (show VaP w bn bm bp bv (.slice pn nn cn) (.slice pp np cp) m.nodes.length nx W W' r from ⟨hc.mono (fun _ _ x => x.elim), fun q hq => by
    rcases hr with h | h
    · rw [h] at hq; cases hq; exact ⟨hS.still hc, Nat.le_refl _, hnx, hpt⟩
    · rw [h] at hq; cases hq⟩))
  have a0 : ¬ ((q : Int) < 0) := by omega
  have a1 : ¬ ((nx : Int) < (q : Int)) := by omega
  have a2 : ¬ ((nn : Int) ≤ (q : Int)) := by omega
  have a3 : (q : Int) < (nx : Int) := by omega
  have a4 : (q : Int) < (nn : Int) := by omega
  have a5 : (0 : Int) ≤ (q : Int) := by omega
  have c0a := (Chg.alloc (fun _ => False) W (.cells #[.int .i64 x.kind, .int .i64 x.int, .string x.str, .slice xp x.keys.length xc, .slice yp x.kids.length yc] 85)).cell c0
  have HRES : Hid ((if 10 ≤ x.kind then some (nx, pt) else none : Option (Nat × Nat)) = some (nx, pt) ∧ (10 ≤ x.kind) ∨ (if 10 ≤ x.kind then some (nx, pt) else none : Option (Nat × Nat)) = none ∧ ¬ (10 ≤ x.kind)) := Lib.hid (by
    by_cases h : 10 ≤ x.kind
    · left; rw [if_pos h]; exact ⟨rfl, h⟩
    · right; rw [if_neg h]; exact ⟨rfl, h⟩)
  have hg : pn = some ⟨g, off, none⟩ := by injection hv1
  subst hg
  clear hS hm hfit hU hnn hN hnx hpt hrl hre hrs hkr hv1 hc1 hat hnx' hfx hxk hxd hcel hrc hK hD hq hlt
  rcases HRES.out with ⟨h1, h2⟩ | ⟨h1, h2⟩
  · rw [h1]
    clear h1 HRES
    go_enter Tryd.func67, Tryd.ntmps67
    go_wp2_with fail
    go_ret
    exact ⟨rfl, HP.out _ (Chg.alloc _ _ _) _ (.inl rfl)⟩
  · rw [h1]
    clear h1 HRES
    go_enter Tryd.func67, Tryd.ntmps67
    go_wp2_with fail
    go_ret
    exact ⟨rfl, HP.out _ (Chg.alloc _ _ _) _ (.inr rfl)⟩
theorem visitM_new {ns : List Nod} {f nx pt : Nat} (h : nx < ns.length) : visitM ns (f + 1) (nx : Int) nx pt = if ¬ formedB (nodN ns nx) = true then none else if (nodN ns nx).kind = 14 then (if (nodN ns nx).int = pt then some (nx + 1, pt + 1) else none) else match kidsM (visitM ns f) (nodN ns nx).kids (nx + 1) pt with
    | none => none
    | some r => if (nodN ns nx).kind ≠ 12 ∨ keysB ns (nodN ns nx) = true then some r else none := by
  rw [visitM, visitStep, if_neg (by omega), if_neg (by omega)]
theorem formedB_map {n : Nod} (h : formedB n = true) (hk : n.kind = 12) : n.kids.length ≤ 20000 := by
  unfold formedB at h
  rw [if_neg (show ¬ n.kind ≤ 4 by omega)] at h
  by_cases h2 : n.str.toList = []
  · rw [if_neg (show ¬ ¬ n.str.toList = [] from fun x => x h2)] at h
    by_cases h3 : ¬ n.kind = 14 ∧ ¬ n.int = 0
    · rw [if_pos h3] at h; cases h
    · rw [if_neg h3, if_neg (show ¬ (n.kind = 10 ∨ n.kind = 13) by omega), if_neg (show ¬ n.kind = 11 by omega), if_pos hk] at h
      by_cases h4 : n.keys.length = 0
      · rw [if_neg (fun x => x h4)] at h
        by_cases h5 : n.kids.length % 2 = 0
        · rw [if_neg (fun x => x h5)] at h
          exact of_decide_eq_true h
        · rw [if_pos h5] at h; cases h
      · rw [if_pos h4] at h; cases h
  · rw [if_pos h2] at h; cases h
theorem kidsM_cons {v : Int → Nat → Nat → Option (Nat × Nat)} {k : Int} {ks : List Int} {nx pt : Nat} : kidsM v (k :: ks) nx pt = match v k nx pt with
    | none => none
    | some r => kidsM v ks r.1 r.2 := rfl
set_option maxHeartbeats 3200000 in
set_option maxRecDepth 100000 in
theorem visit_new (w : World) (bn bm bp bv : Nat) (pn pp : Option Addr) (nn cn np cp : Nat) (D : Nat → Prop) (m : Msg) (hm : MsgAt D w (.slice pn nn cn) (.slice pp np cp) m) (hfit : ∀ x ∈ m.nodes, NodFit x) (hU : Lib.Utf8Tabs 0 1 w) (hN : m.nodes.length ≤ 10000) (f : Nat) (nx pt : Nat) (W : World) (hS : VaS w bn bm bp bv (.slice pn nn cn) (.slice pp np cp) W nx pt) (hpt : pt ≤ nx) (hnx : nx ≤ m.nodes.length) (hq : nx < m.nodes.length)
    (ih : ∀ (i : Int) (nx' pt' : Nat) (W' : World), VaS w bn bm bp bv (.slice pn nn cn) (.slice pp np cp) W' nx' pt' → pt' ≤ nx' → nx' ≤ m.nodes.length → nx < nx' → I64 i → Calls Tryd.prog 67 #[.int .i64 i, .pointer (some ⟨bn, 0, none⟩), .pointer (some ⟨bm, 0, none⟩), .pointer (some ⟨bp, 0, none⟩), .pointer (some ⟨bv, 0, none⟩)] W' fun e w' => e = .returned (.bool (visitM m.nodes f i nx' pt').isSome) ∧ VaP w bn bm bp bv (.slice pn nn cn) (.slice pp np cp) m.nodes.length nx' W' w' (visitM m.nodes f i nx' pt')) :
    Calls Tryd.prog 67 #[.int .i64 (nx : Int), .pointer (some ⟨bn, 0, none⟩), .pointer (some ⟨bm, 0, none⟩), .pointer (some ⟨bp, 0, none⟩), .pointer (some ⟨bv, 0, none⟩)] W fun e w' => e = .returned (.bool (visitM m.nodes (f + 1) (nx : Int) nx pt).isSome) ∧ VaP w bn bm bp bv (.slice pn nn cn) (.slice pp np cp) m.nodes.length nx W w' (visitM m.nodes (f + 1) (nx : Int) nx pt) := by
  rw [visitM_new hq]
  have HIH := Lib.hid ih
  clear ih
  have c0 := cell_of_block (i := 0) hS.n rfl
  have c1 := cell_of_block (i := 0) hS.m rfl
  simp only [List.getElem_toArray, List.getElem_cons_zero, List.getElem_cons_succ] at c0 c1
  have hnn : nn = m.nodes.length := by
    obtain ⟨⟨rsN, hrl, -, hrs⟩, -⟩ := hm
    obtain ⟨_, _, e, -⟩ := hrs
    cases e
    exact hrl
  obtain ⟨rsN, hrl, hre, hrs⟩ := hm.ex
  have hkr : nx < rsN.length := by rw [hrl]; exact hq
  obtain ⟨g, off, cn', hv1, -, -, hc1⟩ := hrs.at (by omega)
  have hat := hre nx hkr hq
  have hnd0 : nodN m.nodes (nx : Int) = m.nodes[nx] := by
    unfold nodN
    rw [List.getD_eq_getElem?_getD, show ((nx : Int)).toNat = nx by omega, List.getElem?_eq_getElem hq]; rfl
  have hfx := hfit _ (List.getElem_mem hq)
  obtain ⟨xp, xc, hxk, -, -⟩ := hat.keys.val
  obtain ⟨yp, yc, hxd, -, -⟩ := hat.kids.val
  have hcel : ∀ c u, (rsN[nx]).cells[c]? = some u → c < 5 → w.cell? ⟨g, off + nx * 5 + c, none⟩ = some u := fun c u hu hcc => by
    rw [Nat.add_assoc]
    exact hc1 (nx * 5 + c) u (by rw [flat_get _ 5 NodR.len rsN nx c hkr hcc]; exact hu)
  have hrc : rsN[nx].cells = [.int .i64 m.nodes[nx].kind, .int .i64 m.nodes[nx].int, .string m.nodes[nx].str, .slice xp m.nodes[nx].keys.length xc, .slice yp m.nodes[nx].kids.length yc] := by
    unfold NodR.cells
    rw [hat.kind, hat.int, hat.str, hxk, hxd]
  rw [hrc] at hcel
  have hK := hat.keys
  have hD := hat.kids
  rw [hxk] at hK
  rw [hxd] at hD
  rw [hnd0] at *
  generalize m.nodes[nx] = x at *
  have e0 := hS.chg.cell (hcel 0 _ rfl (by omega))
  have e1 := hS.chg.cell (hcel 1 _ rfl (by omega))
  have e2 := hS.chg.cell (hcel 2 _ rfl (by omega))
  have e3 := hS.chg.cell (hcel 3 _ rfl (by omega))
  have e4 := hS.chg.cell (hcel 4 _ rfl (by omega))
  rw [Nat.add_zero] at e0
  have hg : pn = some ⟨g, off, none⟩ := by injection hv1
  subst hg
  have a0 : ¬ ((nx : Int) < 0) := by omega
  have a2 : ¬ ((nn : Int) ≤ (nx : Int)) := by omega
  have a4 : (nx : Int) < (nn : Int) := by omega
  have a5 : (0 : Int) ≤ (nx : Int) := by omega
  have hca := Chg.alloc (fun _ => False) W (.cells #[.int .i64 x.kind, .int .i64 x.int, .string x.str, .slice xp x.keys.length xc, .slice yp x.kids.length yc] 85)
  have hSa := hS.still hca
  have c0a := hca.cell c0
  have f0a : (W.alloc (.cells #[.int .i64 x.kind, .int .i64 x.int, .string x.str, .slice xp x.keys.length xc, .slice yp x.kids.length yc] 85)).frozen? ⟨bn, 0, none⟩ = false := frozen_of_block hSa.n
  have wn : IntKind.i64.wrap ((nx : Int) + 1) = ((nx + 1 : Nat) : Int) := IntWalk.i64_in _ (by omega)
  have wn' : wrap64 ((nx : Int) + 1) = ((nx + 1 : Nat) : Int) := IntWalk.wrap64_in _ (by omega)
  have HCN := Lib.hid (show Chg (fun k => k = bn ∨ k = bp) W ((W.alloc (.cells #[.int .i64 x.kind, .int .i64 x.int, .string x.str, .slice xp x.keys.length xc, .slice yp x.kids.length yc] 85)).setCell ⟨bn, 0, none⟩ (.int .i64 ((nx : Int) + 1))) from hca.trans (Chg.setCell _ ⟨bn, 0, none⟩ _) (fun _ _ x => x.elim) (fun k _ x => .inl x))
  have hb7n : ¬ W.heap.size = bn := by have := lt_of_block hS.n; omega
  have HB7P : Hid (¬ W.heap.size = bp ∧ ¬ W.heap.size = bn) := Lib.hid ⟨by have := lt_of_block hS.p; omega, hb7n⟩
  have HB7 := Lib.hid ((show Chg (fun k => k = bn) _ ((W.alloc (.cells #[.int .i64 x.kind, .int .i64 x.int, .string x.str, .slice xp x.keys.length xc, .slice yp x.kids.length yc] 85)).setCell ⟨bn, 0, none⟩ (.int .i64 ((nx : Int) + 1))) from Chg.setCell _ ⟨bn, 0, none⟩ _).keep (alloc_block W (.cells #[.int .i64 x.kind, .int .i64 x.int, .string x.str, .slice xp x.keys.length xc, .slice yp x.kids.length yc] 85)) hb7n)
  have HS2 := Lib.hid (show VaS w bn bm bp bv (.slice (some ⟨g, off, none⟩) nn cn) (.slice pp np cp) ((W.alloc (.cells #[.int .i64 x.kind, .int .i64 x.int, .string x.str, .slice xp x.keys.length xc, .slice yp x.kids.length yc] 85)).setCell ⟨bn, 0, none⟩ (.int .i64 ((nx : Int) + 1))) (nx + 1) pt from hSa.next)
  have HK := Lib.hid hK
  have HD := Lib.hid hD
  have HFX := Lib.hid hfx
  have HUW := Lib.hid hU
  have HM := Lib.hid hm
  have HFIT := Lib.hid hfit
  have HN := Lib.hid hN
  have HQ := Lib.hid hq
  have HPT := Lib.hid hpt
  clear hS hm hfit hU hnn hN hnx hpt hrl hre hrs hkr hv1 hc1 hat hnd0 hfx hxk hxd hcel hrc hK hD hq hca hSa hb7n

  generalize hR : (if ¬ formedB x = true then none else if x.kind = 14 then (if x.int = pt then some (nx + 1, pt + 1) else none) else match kidsM (visitM m.nodes f) x.kids (nx + 1) pt with
    | none => none
    | some r => if x.kind ≠ 12 ∨ keysB m.nodes x = true then some r else none) = R
  have HR := Lib.hid hR
  clear hR
  go_enter Tryd.func67, Tryd.ntmps67
  go_upto_region 7 with fail
  generalize (W.alloc (.cells #[.int .i64 x.kind, .int .i64 x.int, .string x.str, .slice xp x.keys.length xc, .slice yp x.kids.length yc] 85)).setCell ⟨bn, 0, none⟩ (.int .i64 ((nx : Int) + 1)) = w2 at *
  generalize W.heap.size = b7 at *
  clear c0 c0a f0a c1 e0 e1 e2 e3 e4 wn wn'
  have l0 := cell_of_block (i := 0) HB7.out rfl
  have l1 := cell_of_block (i := 1) HB7.out rfl
  have l2 := cell_of_block (i := 2) HB7.out rfl
  have l3 := cell_of_block (i := 3) HB7.out rfl
  have l4 := cell_of_block (i := 4) HB7.out rfl
  simp only [List.getElem_toArray, List.getElem_cons_zero, List.getElem_cons_succ] at l0 l1 l2 l3 l4
  have HF := Lib.hid (formed_any w2 x xp yp xc yc (utf8_stay HUW.out HS2.out.chg) HFX.out (HK.out.still HS2.out.chg))
  have HFB : Hid (formedB x = formedB x) := Lib.hid rfl
  generalize hfb : formedB x = fb at *
  have HFE := Lib.hid hfb
  clear hfb HFB
  cases fb with
  | false =>
    obtain rfl : R = none := by rw [← HR.out, if_pos (by decide)]
    clear HR
    go_wp2_with (go_at_call 68; refine HF.out.mono ?_; rintro _ w3 ⟨rfl, hc3⟩; have HC3 := Lib.hid hc3; clear hc3)
    go_ret
    exact ⟨rfl, HCN.out.trans HC3.out (fun _ _ x => x) (fun _ _ x => x.elim), fun q hq => by cases hq⟩
  | true =>
    rw [if_neg (by decide)] at HR
    go_upto_region 9 with (go_at_call 68; refine HF.out.mono ?_; rintro _ w3 ⟨rfl, hc3⟩; have HC3 := Lib.hid hc3; clear hc3)
    have HS3 := Lib.hid (HS2.out.still HC3.out)
    have HB73 := Lib.hid (HC3.out.keep HB7.out (fun x => x))
    have HC13 := Lib.hid (HCN.out.trans HC3.out (fun _ _ x => x) (fun _ _ x => x.elim))
    clear l0 l1 l2 l3 l4 HB7 HS2 HCN HC3 HF
    have l0 := cell_of_block (i := 0) HB73.out rfl
    have l1 := cell_of_block (i := 1) HB73.out rfl
    have l4 := cell_of_block (i := 4) HB73.out rfl
    have p0 := cell_of_block (i := 0) HS3.out.p rfl
    have fp0 := frozen_of_block (i := 0) HS3.out.p
    simp only [List.getElem_toArray, List.getElem_cons_zero, List.getElem_cons_succ] at l0 l1 l4 p0
    by_cases h14 : x.kind = 14
    · rw [if_pos h14] at HR
      have wp : IntKind.i64.wrap ((pt : Int) + 1) = ((pt + 1 : Nat) : Int) := IntWalk.i64_in _ (by have := HPT.out; have := HQ.out; have := HN.out; omega)
      have wp' : wrap64 ((pt : Int) + 1) = ((pt + 1 : Nat) : Int) := IntWalk.wrap64_in _ (by have := HPT.out; have := HQ.out; have := HN.out; omega)
      go_upto_region 11 with fail
      have HS4 := Lib.hid (show VaS w bn bm bp bv (.slice (some ⟨g, off, none⟩) nn cn) (.slice pp np cp) (w3.setCell ⟨bp, 0, none⟩ (.int .i64 ((pt : Int) + 1))) (nx + 1) (pt + 1) from HS3.out.port)
      have hc34 : Chg (fun k => k = bp) w3 (w3.setCell ⟨bp, 0, none⟩ (.int .i64 ((pt : Int) + 1))) := Chg.setCell w3 ⟨bp, 0, none⟩ _
      have HB74 := Lib.hid (hc34.keep HB73.out HB7P.out.1)
      have HC14 := Lib.hid (HC13.out.trans hc34 (fun _ _ x => x) (fun k _ x => .inr x))
      clear l0 l1 l4 p0 fp0 hc34
      generalize w3.setCell ⟨bp, 0, none⟩ (.int .i64 ((pt : Int) + 1)) = w4 at *
      have l1 := cell_of_block (i := 1) HB74.out rfl
      have p0 := cell_of_block (i := 0) HS4.out.p rfl
      simp only [List.getElem_toArray, List.getElem_cons_zero, List.getElem_cons_succ] at l1 p0
      have wq : IntKind.i64.wrap (((pt + 1 : Nat) : Int) - 1) = (pt : Int) := by rw [show ((pt + 1 : Nat) : Int) - 1 = (pt : Int) by omega]; exact IntWalk.i64_in _ (by have := HPT.out; have := HQ.out; have := HN.out; omega)
      have wq2 : IntKind.i64.wrap ((pt : Int) + 1 - 1) = (pt : Int) := by rw [show (pt : Int) + 1 - 1 = (pt : Int) by omega]; exact IntWalk.i64_in _ (by have := HPT.out; have := HQ.out; have := HN.out; omega)
      clear wp wp'
      by_cases hi : x.int = (pt : Int)
      · obtain rfl : R = some (nx + 1, pt + 1) := by rw [← HR.out, if_pos hi]
        clear HR
        have HI := Lib.hid (show (x.int == (pt : Int)) = true by simp [hi])
        have hb := HI.out
        clear hi
        have HWS : Hid (wrap64 (pt : Int) = (pt : Int)) := Lib.hid (IntWalk.wrap64_in _ (by have := HPT.out; have := HQ.out; have := HN.out; omega))
        go_wp2_with fail
        go_ret
        exact ⟨by show Ending.returned (.bool (x.int == wrap64 (pt : Int))) = _; rw [HWS.out, hb]; rfl, HC14.out, fun q hq => by cases hq; exact ⟨HS4.out, Nat.le_succ _, HQ.out, Nat.succ_le_succ HPT.out⟩⟩
      · obtain rfl : R = none := by rw [← HR.out, if_neg hi]
        clear HR
        have hb : (x.int == (pt : Int)) = false := by simp [hi]
        clear hi
        have HWS : Hid (wrap64 (pt : Int) = (pt : Int)) := Lib.hid (IntWalk.wrap64_in _ (by have := HPT.out; have := HQ.out; have := HN.out; omega))
        go_wp2_with fail
        go_ret
        exact ⟨by show Ending.returned (.bool (x.int == wrap64 (pt : Int))) = _; rw [HWS.out, hb]; rfl, HC14.out, fun q hq => by cases hq⟩
    · rw [if_neg h14] at HR
      have HKF := Lib.hid HFX.out.fewD.lt
      have hkl : (x.kids.length : Int) ≤ 1000000000 := by have := HKF.out; omega
      have H14 := Lib.hid h14
      have HS30 : Hid (VaS w bn bm bp bv (.slice (some ⟨g, off, none⟩) nn cn) (.slice pp np cp) w3 (nx + 1) pt) := HS3
      have h14b : (x.kind == 14) = false := by simp [h14]
      clear l1 p0 fp0 h14
      go_wp2_with fail
      go_loopw [6, 9, 53] (fun _ _ u53 wr => ∃ j nx' pt' : Nat, j ≤ x.kids.length ∧ u53 = .int .i64 (j : Int) ∧ Hid (VaS w bn bm bp bv (.slice (some ⟨g, off, none⟩) nn cn) (.slice pp np cp) wr nx' pt') ∧ Hid (kidsM (visitM m.nodes f) x.kids (nx + 1) pt = kidsM (visitM m.nodes f) (x.kids.drop j) nx' pt') ∧ Hid (nx + 1 ≤ nx' ∧ nx' ≤ m.nodes.length ∧ pt' ≤ nx') ∧ Hid (Chg (fun k => k = bn ∨ k = bp) w3 wr)) (fun _ _ u53 _ => x.kids.length - (intOf u53).toNat)
      case atStart => exact ⟨0, nx + 1, pt, Nat.zero_le _, rfl, HS30, Lib.hid rfl, Lib.hid ⟨Nat.le_refl _, HQ.out, by have := HPT.out; omega⟩, Lib.hid (Chg.refl _ _)⟩
      case round =>
        obtain ⟨j, nx', pt', hj, rfl, HSR, HKE, HBD, HCR⟩ := hrel
        clear l0 l4
        have HB7R := Lib.hid (HCR.out.keep HB73.out (fun e => e.elim HB7P.out.2 HB7P.out.1))
        by_cases hlt : j < x.kids.length
        · have k0 : (0 : Int) ≤ (j : Int) := by omega
          have k1 : (j : Int) < (x.kids.length : Int) := by omega
          have w64 : IntKind.i64.wrap ((j : Int) + 1) = ((j + 1 : Nat) : Int) := IntWalk.i64_in _ (by omega)
          obtain ⟨g2, off2, cd', hv2, -, -, hc2⟩ := HD.out.at (by omega)
          cases hv2
          have e5 := HSR.out.chg.cell (hc2 j (.int .i64 x.kids[j]) (by rw [intC, List.getElem?_map, List.getElem?_eq_getElem hlt]; rfl))
          have v0 := cell_of_block (i := 0) HSR.out.v rfl
          simp only [List.getElem_toArray, List.getElem_cons_zero, List.getElem_cons_succ] at v0
          have HI := Lib.hid (HIH.out x.kids[j] nx' pt' wr HSR.out HBD.out.2.2 HBD.out.2.1 (by have := HBD.out.1; omega) (HFX.out.kids _ (List.getElem_mem hlt)))
          have hdr := HKE.out
          rw [List.drop_eq_getElem_cons hlt, kidsM_cons] at hdr
          have HDR := Lib.hid hdr
          have HNX : Hid (j + 1 ≤ x.kids.length) := Lib.hid hlt
          clear hdr HKE hc2 hj
          generalize x.kids[j] = ki at *
          clear hlt
          generalize hvr : visitM m.nodes f ki nx' pt' = rv at HI HDR
          clear hvr
          go_wp2_with fail
          refine HI.out.mono ?_
          rintro e w5 ⟨rfl, hP5⟩
          have HP5 := Lib.hid hP5
          clear hP5 e5 v0
          cases rv with
          | none =>
            have HRN : Hid (R = none) := Lib.hid (by rw [← HR.out, HDR.out])
            go_wp2_with fail
            go_ret
            refine ⟨by rw [HRN.out]; rfl, (HC13.out.trans' HCR.out).trans' HP5.out.1, fun q hq => by rw [HRN.out] at hq; cases hq⟩
          | some rq =>
            obtain ⟨r1, r2⟩ := rq
            obtain ⟨s1, s2, s3, s4⟩ := HP5.out.2 _ rfl
            have HS5 := Lib.hid s1
            have HB5 : Hid (nx + 1 ≤ r1 ∧ r1 ≤ m.nodes.length ∧ r2 ≤ r1) := Lib.hid ⟨Nat.le_trans HBD.out.1 s2, s3, s4⟩
            clear s1 s2 s3 s4
            go_wp2_with fail
            go_roundw
            case rel => exact ⟨j + 1, r1, r2, HNX.out, rfl, HS5, Lib.hid HDR.out, HB5, Lib.hid (HCR.out.trans' HP5.out.1)⟩
            case measure => have := HNX.out; simp [intOf, w64]; omega
        · have hje : j = x.kids.length := by omega
          have i1 : ¬ (j : Int) < (x.kids.length : Int) := by omega
          have hke := HKE.out
          rw [List.drop_of_length_le (by omega)] at hke
          have hke2 : kidsM (visitM m.nodes f) x.kids (nx + 1) pt = some (nx', pt') := hke
          have HKE2 := Lib.hid hke2
          have HRNG := Lib.hid (kidsM_range _ _ _ _ hke2)
          have hr := HR.out
          rw [hke2] at hr
          have HR2 := Lib.hid (show (if x.kind ≠ 12 ∨ keysB m.nodes x = true then some (nx', pt') else none) = R from hr)
          have l0 := cell_of_block (i := 0) HB7R.out rfl
          have l1 := cell_of_block (i := 1) HB7R.out rfl
          have l2 := cell_of_block (i := 2) HB7R.out rfl
          have l3 := cell_of_block (i := 3) HB7R.out rfl
          have l4 := cell_of_block (i := 4) HB7R.out rfl
          have m0 := cell_of_block (i := 0) HSR.out.m rfl
          have m1 := cell_of_block (i := 1) HSR.out.m rfl
          simp only [List.getElem_toArray, List.getElem_cons_zero, List.getElem_cons_succ] at l0 l1 l2 l3 l4 m0 m1
          have HC1R := Lib.hid (HC13.out.trans' HCR.out)
          clear hke hke2 hr hj hlt
          by_cases h12 : x.kind = 12
          · have h12b : (x.kind != 12) = false := by simp [h12]
            have HKY := Lib.hid (keys_any wr m (some ⟨g, off, none⟩) pp nn cn np cp (HM.out.chg HSR.out.chg (fun _ _ x => x.elim) (fun _ _ x => x)) HFIT.out x xp yp x.keys.length xc x.kids.length yc (HD.out.still HSR.out.chg) HRNG.out (formedB_map HFE.out h12))
            generalize hkb : keysB m.nodes x = kb at *
            clear hkb
            have HR3 : Hid (R = if kb = true then some (nx', pt') else none) := Lib.hid (by
              rw [← HR2.out]
              cases kb <;> simp [h12])
            have H12 := Lib.hid h12
            clear h12
            go_wp2_with (go_at_call 69; refine HKY.out.mono ?_; rintro _ w6 ⟨rfl, hc6⟩; have HC6 := Lib.hid hc6; clear hc6)
            go_ret
            cases kb with
            | false => exact ⟨by rw [HR3.out]; rfl, HC1R.out.trans HC6.out (fun _ _ x => x) (fun _ _ x => x.elim), fun q hq => by rw [HR3.out] at hq; cases hq⟩
            | true => exact ⟨by rw [HR3.out]; rfl, HC1R.out.trans HC6.out (fun _ _ x => x) (fun _ _ x => x.elim), fun q hq => by
                rw [HR3.out] at hq
                cases hq
                exact ⟨HSR.out.still HC6.out, by have := HBD.out.1; omega, HBD.out.2.1, HBD.out.2.2⟩⟩
          · have h12b : (x.kind != 12) = true := by simp [h12]
            have HR3 : Hid (R = some (nx', pt')) := Lib.hid (by rw [← HR2.out, if_pos (.inl h12)])
            clear h12
            go_wp2_with fail
            go_ret
            exact ⟨by rw [HR3.out]; rfl, HC1R.out, fun q hq => by
                rw [HR3.out] at hq
                cases hq
                exact ⟨HSR.out, by have := HBD.out.1; omega, HBD.out.2.1, HBD.out.2.2⟩⟩
end Go.Proofs.YtiecgbmeobpomaaDoor
namespace Go.Proofs.YtiecgbmeobpomaaDoor
open Go.RowKit
set_option linter.unusedVariables false
set_option linter.unusedSimpArgs false

theorem visit_any (w : World) (bn bm bp bv : Nat) (pn pp : Option Addr) (nn cn np cp : Nat) (D : Nat → Prop) (m : Msg) (hm : MsgAt D w (.slice pn nn cn) (.slice pp np cp) m) (hfit : ∀ x ∈ m.nodes, NodFit x) (hU : Lib.Utf8Tabs 0 1 w) (hN : m.nodes.length ≤ 10000) :
    ∀ (f : Nat) (i : Int) (nx pt : Nat) (W : World), VaS w bn bm bp bv (.slice pn nn cn) (.slice pp np cp) W nx pt → pt ≤ nx → nx ≤ m.nodes.length → m.nodes.length ≤ f + nx → I64 i →
      Calls Tryd.prog 67 #[.int .i64 i, .pointer (some ⟨bn, 0, none⟩), .pointer (some ⟨bm, 0, none⟩), .pointer (some ⟨bp, 0, none⟩), .pointer (some ⟨bv, 0, none⟩)] W fun e w' => e = .returned (.bool (visitM m.nodes f i nx pt).isSome) ∧ VaP w bn bm bp bv (.slice pn nn cn) (.slice pp np cp) m.nodes.length nx W w' (visitM m.nodes f i nx pt) := by
  intro f
  induction f with
  | zero =>
    intro i nx pt W hS hpt hnx hf hi
    by_cases ho : i < 0 ∨ (nx : Int) < i ∨ (m.nodes.length : Int) ≤ i
    · exact visit_out w bn bm bp bv pn pp nn cn np cp D m hm hfit hU hN 0 i nx pt W hS hpt hnx ho
    · obtain ⟨q, rfl⟩ : ∃ q : Nat, i = (q : Int) := ⟨i.toNat, by omega⟩
      exact visit_old w bn bm bp bv pn pp nn cn np cp D m hm hfit hU hN 0 q nx pt W hS hpt hnx (by omega) (by omega)
  | succ f ih =>
    intro i nx pt W hS hpt hnx hf hi
    by_cases ho : i < 0 ∨ (nx : Int) < i ∨ (m.nodes.length : Int) ≤ i
    · exact visit_out w bn bm bp bv pn pp nn cn np cp D m hm hfit hU hN (f + 1) i nx pt W hS hpt hnx ho
    · obtain ⟨q, rfl⟩ : ∃ q : Nat, i = (q : Int) := ⟨i.toNat, by omega⟩
      by_cases hq : q < nx
      · exact visit_old w bn bm bp bv pn pp nn cn np cp D m hm hfit hU hN (f + 1) q nx pt W hS hpt hnx (by omega) hq
      · have hqe : q = nx := by omega
        subst hqe
        exact visit_new w bn bm bp bv pn pp nn cn np cp D m hm hfit hU hN f q pt W hS hpt hnx (by omega) (fun i nx' pt' W' h1 h2 h3 h4 h5 => ih i nx' pt' W' h1 h2 h3 (by omega) h5)
structure MsgFit (m : Msg) : Prop where
  nodes : ∀ x ∈ m.nodes, NodFit x
  ports : ∀ x ∈ m.ports, I64 x
  fewN : Few m.nodes.length
  fewP : Few m.ports.length
noncomputable def validR (m : Msg) : Option (Nat × Nat) → Bool
  | none => false
  | some r => decide (r.1 = m.nodes.length) && decide (r.2 = m.ports.length)
noncomputable def validB (m : Msg) : Bool :=
  if m.nodes.length = 0 then false else if 10000 < m.nodes.length then false else if diffB m.ports = false then false else validR m (visitM m.nodes m.nodes.length 0 0 0)
set_option maxHeartbeats 3200000 in
set_option maxRecDepth 100000 in
theorem valid_any (w : World) (pn pp : Option Addr) (nn cn np cp : Nat) (D : Nat → Prop) (m : Msg) (hm : MsgAt D w (.slice pn nn cn) (.slice pp np cp) m) (hfit : MsgFit m) (hU : Lib.Utf8Tabs 0 1 w) :
    Calls Tryd.prog 52 #[.agg #[.slice pn nn cn, .slice pp np cp]] w fun e w' => e = .returned (.bool (validB m)) ∧ Chg (fun _ => False) w w' := by
  have hnn : nn = m.nodes.length := by
    obtain ⟨⟨rsN, hrl, -, hrs⟩, -⟩ := hm
    obtain ⟨_, _, e, -⟩ := hrs
    cases e
    exact hrl
  have hnp : np = m.ports.length := by
    obtain ⟨_, _, e, -⟩ := hm.ports
    cases e
    rfl
  have HNP := Lib.hid hnp
  have hca := Chg.alloc (fun _ => False) w (.cells #[.slice pn nn cn, .slice pp np cp] 32)
  have HCA := Lib.hid hca
  unfold validB
  by_cases h0 : m.nodes.length = 0
  · rw [if_pos h0]
    have z0 : ((nn : Int) == 0) = true := by rw [hnn, h0]; rfl
    clear hm hfit hU hnn hnp hca h0
    go_enter Tryd.func52, Tryd.ntmps52
    go_wp2_with fail
    go_ret
    exact ⟨rfl, HCA.out⟩
  · rw [if_neg h0]
    have z0 : ((nn : Int) == 0) = false := beq_false_of_ne (by omega)
    by_cases h1 : 10000 < m.nodes.length
    · rw [if_pos h1]
      have z1 : (10000 : Int) < (nn : Int) := by omega
      clear hm hfit hU hnn hnp hca h0 h1
      go_enter Tryd.func52, Tryd.ntmps52
      go_wp2_with fail
      go_ret
      exact ⟨rfl, HCA.out⟩
    · rw [if_neg h1]
      have z1 : ¬ (10000 : Int) < (nn : Int) := by omega
      have HD := Lib.hid (distinctI_any _ _ m.ports (by have := hm.ports.still hca; rwa [← hnp] at this ⊢) hfit.fewP hfit.ports)
      have HM := Lib.hid hm
      have HFIT := Lib.hid hfit.nodes
      have HU := Lib.hid hU
      have HN : Hid (m.nodes.length ≤ 10000) := Lib.hid (by omega)
      have HNN := Lib.hid hnn
      have HBM := Lib.hid (alloc_block w (.cells #[.slice pn nn cn, .slice pp np cp] 32))
      clear hm hfit hU hnn hnp hca h0 h1
      generalize hdb : diffB m.ports = db at *
      clear hdb
      cases db with
      | false =>
        rw [if_pos rfl]
        go_enter Tryd.func52, Tryd.ntmps52
        go_wp2_with (go_at_call 66; refine HD.out.mono ?_; rintro _ w1 ⟨rfl, hc1⟩; have HC1 := Lib.hid hc1; clear hc1)
        go_ret
        exact ⟨rfl, HCA.out.trans' HC1.out⟩
      | true =>
        rw [if_neg (by decide)]
        go_enter Tryd.func52, Tryd.ntmps52
        go_upto_region 5 with (go_at_call 66; refine HD.out.mono ?_; rintro _ w1 ⟨rfl, hc1⟩; have HC1 := Lib.hid hc1; clear hc1)
        have hb1 := alloc_old (.cells #[.nilFunc] 81) (alloc_old (.cells #[.int .i64 0] 3) (alloc_block w1 (.cells #[.int .i64 0] 3)))
        have hb2 := alloc_old (.cells #[.nilFunc] 81) (alloc_block (w1.alloc (.cells #[.int .i64 0] 3)) (.cells #[.int .i64 0] 3))
        have hb3 := alloc_block ((w1.alloc (.cells #[.int .i64 0] 3)).alloc (.cells #[.int .i64 0] 3)) (.cells #[.nilFunc] 81)
        rw [World.size_alloc] at hb2
        rw [World.size_alloc, World.size_alloc] at hb3
        have hbm := ((((Chg.refl (fun _ => False) w1).allocR (.cells #[.int .i64 0] 3)).allocR (.cells #[.int .i64 0] 3)).allocR (.cells #[.nilFunc] 81)).keep (HC1.out.keep HBM.out (fun x => x)) (fun x => x)
        have hcg := (((HCA.out.trans' HC1.out).allocR (.cells #[.int .i64 0] 3)).allocR (.cells #[.int .i64 0] 3)).allocR (.cells #[.nilFunc] 81)
        have hsz : w.heap.size < w1.heap.size := Nat.lt_of_lt_of_le (lt_of_block HBM.out) HC1.out.size
        have y0 := cell_of_block (i := 0) hb3 rfl
        have yf := frozen_of_block (i := 0) hb3
        have m0 := cell_of_block (i := 0) hbm rfl
        simp only [List.getElem_toArray, List.getElem_cons_zero, List.getElem_cons_succ] at y0 m0
        have HB1 := Lib.hid hb1
        have HB2 := Lib.hid hb2
        have HB3 := Lib.hid hb3
        have HBM4 := Lib.hid hbm
        have HCG := Lib.hid hcg
        have HSZ := Lib.hid hsz
        clear hb1 hb2 hb3 hbm hcg hsz
        generalize ((w1.alloc (.cells #[.int .i64 0] 3)).alloc (.cells #[.int .i64 0] 3)).alloc (.cells #[.nilFunc] 81) = w4 at *
        generalize w1.heap.size = bn at *
        generalize hbme : w.heap.size = bm at HBM4 HSZ ⊢
        go_upto_region 6 with fail
        have hb5 := setCell_block (i := 0) (.func (.func 67) #[] #[.pointer (some ⟨bn, 0, none⟩), .pointer (some ⟨bm, 0, none⟩), .pointer (some ⟨bn + 1, 0, none⟩), .pointer (some ⟨bn + 1 + 1, 0, none⟩)]) HB3.out
        have hcs : Chg (fun k => k = bn + 1 + 1) w4 (w4.setCell ⟨bn + 1 + 1, 0, none⟩ (.func (.func 67) #[] #[.pointer (some ⟨bn, 0, none⟩), .pointer (some ⟨bm, 0, none⟩), .pointer (some ⟨bn + 1, 0, none⟩), .pointer (some ⟨bn + 1 + 1, 0, none⟩)])) := Chg.setCell w4 ⟨bn + 1 + 1, 0, none⟩ _
        have hS5 : VaS w bn bm (bn + 1) (bn + 1 + 1) (.slice pn nn cn) (.slice pp np cp) (w4.setCell ⟨bn + 1 + 1, 0, none⟩ (.func (.func 67) #[] #[.pointer (some ⟨bn, 0, none⟩), .pointer (some ⟨bm, 0, none⟩), .pointer (some ⟨bn + 1, 0, none⟩), .pointer (some ⟨bn + 1 + 1, 0, none⟩)])) 0 0 :=
          ⟨hcs.keep HB1.out (by omega), hcs.keep HBM4.out (by have := HSZ.out; omega), hcs.keep HB2.out (by omega), by simpa using hb5, ⟨by have := HSZ.out; omega, by have := HSZ.out; omega, by have := HSZ.out; omega, by omega, by omega, by have := HSZ.out; omega, by omega⟩, HCG.out.trans hcs (fun _ _ x => x) (fun k hk x => by have := HSZ.out; have : k = bn + 1 + 1 := x; omega)⟩
        have HV := Lib.hid (visit_any w bn bm (bn + 1) (bn + 1 + 1) pn pp nn cn np cp D m HM.out HFIT.out HU.out HN.out m.nodes.length 0 0 0 _ hS5 (Nat.le_refl _) (Nat.zero_le _) (by omega) (by unfold I64; omega))
        have HS5 := Lib.hid hS5
        have HSL : Hid (w.heap.size ≤ bn) := Lib.hid (by have := HSZ.out; omega)
        clear y0 yf m0 hb5 hcs hS5
        generalize w4.setCell ⟨bn + 1 + 1, 0, none⟩ (.func (.func 67) #[] #[.pointer (some ⟨bn, 0, none⟩), .pointer (some ⟨bm, 0, none⟩), .pointer (some ⟨bn + 1, 0, none⟩), .pointer (some ⟨bn + 1 + 1, 0, none⟩)]) = w5 at *
        have v0 := cell_of_block (i := 0) HS5.out.v rfl
        simp only [List.getElem_toArray, List.getElem_cons_zero, List.getElem_cons_succ] at v0
        generalize hvr : visitM m.nodes m.nodes.length 0 0 0 = rv at HV
        have HVR := Lib.hid hvr
        clear hvr
        go_wp2_with fail
        refine HV.out.mono ?_
        rintro e w6 ⟨rfl, hP⟩
        have HP := Lib.hid hP
        have HCF := Lib.hid (HS5.out.chg.trans hP.1 (fun _ _ x => x) (fun k hk x => by have := HSL.out; rcases x with x | x <;> omega))
        clear hP v0
        cases rv with
        | none =>
          go_wp2_with fail
          go_ret
          exact ⟨by rw [HVR.out]; rfl, HCF.out⟩
        | some r =>
          obtain ⟨r1, r2⟩ := r
          have hS6 := (HP.out.2 _ rfl).1
          have n0 := cell_of_block (i := 0) hS6.n rfl
          have p0 := cell_of_block (i := 0) hS6.p rfl
          have m0 := cell_of_block (i := 0) hS6.m rfl
          have m1 := cell_of_block (i := 1) hS6.m rfl
          simp only [List.getElem_toArray, List.getElem_cons_zero, List.getElem_cons_succ] at n0 p0 m0 m1
          have HR : Hid (validR m (visitM m.nodes m.nodes.length 0 0 0) = (decide (r1 = nn) && decide (r2 = np))) := Lib.hid (by rw [HVR.out, HNN.out, HNP.out]; rfl)
          clear hS6
          by_cases q1 : r1 = nn
          · have z2 : ((r1 : Int) == (nn : Int)) = true := by simp [q1]
            have Q1 := Lib.hid q1
            clear q1
            by_cases q2 : r2 = np
            · have z3 : ((r2 : Int) == (np : Int)) = true := by simp [q2]
              have Q2 := Lib.hid q2
              clear q2
              go_wp2_with fail
              go_ret
              exact ⟨by rw [HR.out, decide_eq_true Q1.out, decide_eq_true Q2.out]; rfl, HCF.out⟩
            · have z3 : ((r2 : Int) == (np : Int)) = false := beq_false_of_ne (by omega)
              have Q2 := Lib.hid q2
              clear q2
              go_wp2_with fail
              go_ret
              exact ⟨by rw [HR.out, decide_eq_false Q2.out, Bool.and_false]; rfl, HCF.out⟩
          · have z2 : ((r1 : Int) == (nn : Int)) = false := beq_false_of_ne (by omega)
            have Q1 := Lib.hid q1
            clear q1
            go_wp2_with fail
            go_ret
            exact ⟨by rw [HR.out, decide_eq_false Q1.out]; rfl, HCF.out⟩
noncomputable def allowedB (m : Msg) : Bool := if ¬ m.ports.length = 0 then false else if m.nodes.length = 0 then true else validB m
set_option maxHeartbeats 3200000 in
set_option maxRecDepth 100000 in
theorem allowed_any (w : World) (pn pp : Option Addr) (nn cn np cp : Nat) (D : Nat → Prop) (m : Msg) (hm : MsgAt D w (.slice pn nn cn) (.slice pp np cp) m) (hfit : MsgFit m) (hU : Lib.Utf8Tabs 0 1 w) :
    Calls Tryd.prog 42 #[.agg #[.slice pn nn cn, .slice pp np cp]] w fun e w' => e = .returned (.bool (allowedB m)) ∧ Chg (fun _ => False) w w' := by
  have hnn : nn = m.nodes.length := by
    obtain ⟨⟨rsN, hrl, -, hrs⟩, -⟩ := hm
    obtain ⟨_, _, e, -⟩ := hrs
    cases e
    exact hrl
  have hnp : np = m.ports.length := by
    obtain ⟨_, _, e, -⟩ := hm.ports
    cases e
    rfl
  have hca := Chg.alloc (fun _ => False) w (.cells #[.slice pn nn cn, .slice pp np cp] 32)
  have HCA := Lib.hid hca
  have HV := Lib.hid (valid_any _ pn pp nn cn np cp D m (hm.chg hca (fun _ _ x => x.elim) (fun _ _ x => x)) hfit (utf8_stay hU hca))
  unfold allowedB
  by_cases h0 : m.ports.length = 0
  · rw [if_neg (fun x => x h0)]
    have z0 : ((np : Int) == 0) = true := by rw [hnp, h0]; rfl
    by_cases h1 : m.nodes.length = 0
    · rw [if_pos h1]
      have z1 : ((nn : Int) == 0) = true := by rw [hnn, h1]; rfl
      clear hm hfit hU hnn hnp hca h0 h1 HV
      go_enter Tryd.func42, Tryd.ntmps42
      go_wp2_with fail
      go_ret
      exact ⟨rfl, HCA.out⟩
    · rw [if_neg h1]
      have z1 : ((nn : Int) == 0) = false := beq_false_of_ne (by omega)
      clear hm hfit hU hnn hnp hca h0 h1
      generalize validB m = vb at *
      go_enter Tryd.func42, Tryd.ntmps42
      go_wp2_with (go_at_call 52; refine HV.out.mono ?_; rintro _ w1 ⟨rfl, hc1⟩; have HC1 := Lib.hid hc1; clear hc1)
      go_ret
      exact ⟨rfl, HCA.out.trans' HC1.out⟩
  · rw [if_pos h0]
    have z0 : ((np : Int) == 0) = false := beq_false_of_ne (by omega)
    clear hm hfit hU hnn hnp hca h0 HV
    go_enter Tryd.func42, Tryd.ntmps42
    go_wp2_with fail
    go_ret
    exact ⟨rfl, HCA.out⟩
end Go.Proofs.YtiecgbmeobpomaaDoor
namespace Go.Proofs.YtiecgbmeobpomaaDoor
open Go.RowKit
set_option linter.unusedVariables false
set_option linter.unusedSimpArgs false

theorem MsgFit.ok {m : Msg} (h : MsgFit m) : MsgOk m := ⟨h.fewN, h.fewP, fun n hn => ⟨(h.nodes n hn).fewK, (h.nodes n hn).fewD⟩⟩
theorem utf8_past {w0 : Past} {w : World} (hU : Lib.Utf8Tabs 0 1 w0.toWorld) (hc : Chg (fun _ => False) w0.toWorld w) : Lib.Utf8Tabs 0 1 w := utf8_stay hU hc
/-- Two new blocks. -/
theorem HiAt.beside2 {w0 : Past} {w : World} {b : Nat} {h : Hist} {vl vs : Value} {rs : List EntR} (H : HiAt w0 w b h vl vs rs) (o o2 : _root_.Go.Obj) : ∃ w0' : Past, w0'.toWorld = w0.toWorld ∧ (∀ k, w0'.X k ↔ w0.X k ∨ k = w.heap.size ∨ k = w.heap.size + 1) ∧ HiAt w0' ((w.alloc o).alloc o2) b h vl vs rs := by
  obtain ⟨w1, e1, x1, H1⟩ := H.beside o
  obtain ⟨w2, e2, x2, H2⟩ := H1.beside o2
  rw [World.size_alloc] at x2
  refine ⟨w2, e2.trans e1, fun k => ?_, H2⟩
  rw [x2, x1, or_assoc]
set_option maxHeartbeats 6400000 in
set_option maxRecDepth 100000 in
theorem push_no (w0 : Past) (w : World) (b : Nat) (h : Hist) (vl vs : Value) (rs : List EntR) (H : HiAt w0 w b h vl vs rs) (hU : Lib.Utf8Tabs 0 1 w0.toWorld) (url : ByteArray) (m : Msg) (sn sp : Option Addr) (nn cn np cp : Nat) (hm : MsgAt (fun k => w0.heap.size ≤ k) w (.slice sn nn cn) (.slice sp np cp) m) (hfit : MsgFit m) (ha : allowedB m = false) :
    Calls Tryd.prog 21 #[.pointer (some ⟨b, 0, none⟩), .string url, .agg #[.slice sn nn cn, .slice sp np cp]] w fun z w' => ∃ zv, z = .returned (.tuple #[zv, .int .i64 1]) ∧ OpV w0 w b (Mut b vl vs) h Mv0 zv w' := by
  have HB0 : Hid (w0.heap.size ≤ w.heap.size) := Lib.hid H.chg.size
  obtain ⟨w06, hw6e, hx6, H1⟩ := H.beside2 (.cells #[.slice sn nn cn, .slice sp np cp] 32) (.cells #[.int .i64 0, .int .i64 0, .string ⟨#[]⟩, .string ⟨#[]⟩, .slice none 0 0, .slice none 0 0, .int .i64 0, .int .i64 0, .int .i64 0, .bool false, .bool false, .slice none 0 0] 40)
  have HW6E := Lib.hid hw6e
  have HX6 := Lib.hid hx6
  have hb6 := alloc_block (w.alloc (.cells #[.slice sn nn cn, .slice sp np cp] 32)) (.cells #[.int .i64 0, .int .i64 0, .string ⟨#[]⟩, .string ⟨#[]⟩, .slice none 0 0, .slice none 0 0, .int .i64 0, .int .i64 0, .int .i64 0, .bool false, .bool false, .slice none 0 0] 40)
  rw [World.size_alloc] at hb6
  have HB6 := Lib.hid hb6
  have hb5 := alloc_old (.cells #[.int .i64 0, .int .i64 0, .string ⟨#[]⟩, .string ⟨#[]⟩, .slice none 0 0, .slice none 0 0, .int .i64 0, .int .i64 0, .int .i64 0, .bool false, .bool false, .slice none 0 0] 40) (alloc_block w (.cells #[.slice sn nn cn, .slice sp np cp] 32))
  have HC1 := Lib.hid ((Chg.alloc (fun _ => False) w (.cells #[.slice sn nn cn, .slice sp np cp] 32)).allocR (.cells #[.int .i64 0, .int .i64 0, .string ⟨#[]⟩, .string ⟨#[]⟩, .slice none 0 0, .slice none 0 0, .int .i64 0, .int .i64 0, .int .i64 0, .bool false, .bool false, .slice none 0 0] 40))
  have HH1 := Lib.hid H1
  have y0 := cell_of_block (i := 0) hb5 rfl
  have y1 := cell_of_block (i := 1) hb5 rfl
  simp only [List.getElem_toArray, List.getElem_cons_zero, List.getElem_cons_succ] at y0 y1
  have HAL := Lib.hid (allowed_any _ sn sp nn cn np cp _ m (hm.chg HC1.out (fun _ _ x => x.elim) (fun _ _ x => x)) hfit (utf8_past hU (H.chg.trans' HC1.out)))
  rw [ha] at HAL
  clear H H1 hw6e hx6 hb6 hb5 hm hfit ha hU
  go_enter Tryd.func21, Tryd.ntmps21
  go_upto_region 1 with fail
  generalize (w.alloc (.cells #[.slice sn nn cn, .slice sp np cp] 32)).alloc (.cells #[.int .i64 0, .int .i64 0, .string ⟨#[]⟩, .string ⟨#[]⟩, .slice none 0 0, .slice none 0 0, .int .i64 0, .int .i64 0, .int .i64 0, .bool false, .bool false, .slice none 0 0] 40) = w1 at *
  generalize hb5e : w.heap.size = b5 at HB6 HX6 y0 y1 ⊢
  have HB5E := Lib.hid hb5e
  clear hb5e
  generalize hb6e : b5 + 1 = b6 at HB6 HX6 ⊢
  have HB6E := Lib.hid hb6e
  clear hb6e
  go_upto_region 2 with (go_at_call 42; refine HAL.out.mono ?_; rintro _ w3 ⟨rfl, hc3⟩)
  have hb6e := hc3.keep HB6.out (fun x => x)
  obtain ⟨z0, q0, z1, q1, z2, q2, z3, q3, z4, q4, z5, q5, z6, q6, z7, q7, z8, q8, z9, q9, z10, q10, z11, q11, hbf, hcs⟩ := store12 hb6e (.int .i64 0) (.int .i64 0) (.string ⟨#[]⟩) (.string ⟨#[]⟩) (.slice none 0 0) (.slice none 0 0) (.int .i64 0) (.int .i64 0) (.int .i64 0) (.bool false) (.bool false) (.slice none 0 0)
  have HCS := Lib.hid hcs
  have HC3 := Lib.hid hc3
  clear hcs hb6e hc3 y0 y1
  go_wp2_with fail
  generalize ((((((((((((w3.setCell ⟨b6, 0, none⟩ (.int .i64 0)).setCell ⟨b6, 1, none⟩ (.int .i64 0)).setCell ⟨b6, 2, none⟩ (.string ⟨#[]⟩)).setCell ⟨b6, 3, none⟩ (.string ⟨#[]⟩)).setCell ⟨b6, 4, none⟩ (.slice none 0 0)).setCell ⟨b6, 5, none⟩ (.slice none 0 0)).setCell ⟨b6, 6, none⟩ (.int .i64 0)).setCell ⟨b6, 7, none⟩ (.int .i64 0)).setCell ⟨b6, 8, none⟩ (.int .i64 0)).setCell ⟨b6, 9, none⟩ (.bool false)).setCell ⟨b6, 10, none⟩ (.bool false)).setCell ⟨b6, 11, none⟩ (.slice none 0 0)) = wz at *
  refine bodyPost_ret (results_cell_row_tmp48 rfl _ _ b6 #[.int .i64 0, .int .i64 0, .string ⟨#[]⟩, .string ⟨#[]⟩, .slice none 0 0, .slice none 0 0, .int .i64 0, .int .i64 0, .int .i64 0, .bool false, .bool false, .slice none 0 0] (by rfl) (run_loadVar_row _ b6 40 40 _ _ _ hbf Tryd.underlying40 rfl (by kernel_rfl))) rfl ?_
  have hb6n : ∀ k, k = b6 → w0.heap.size ≤ k ∧ w.heap.size ≤ k := fun k e => by
    have := HB5E.out
    have := HB6E.out
    have := HB0.out
    omega
  refine ⟨_, rfl, _, _, _, ((HH1.out.still HC3.out).write HCS.out (fun k x => (HX6.out k).2 (.inr (.inr (by have := HB6E.out; have : k = b6 := x; omega)))) (fun k x => ?_)).shrink HW6E.out (fun k x => (HX6.out k).2 (.inl x)), ?_, fun k _ x => x, MvAt.zero _ _⟩
  · show w06.toWorld.heap.size ≤ k
    rw [HW6E.out]
    exact (hb6n k x).1
  · exact ((HC1.out.trans' HC3.out).trans HCS.out (fun k _ x => x.elim) (fun k hk x => by have := (hb6n k x).2; omega))
set_option maxHeartbeats 6400000 in
set_option maxRecDepth 100000 in
theorem push_yes (w0 : Past) (w : World) (b : Nat) (h : Hist) (vl vs : Value) (rs : List EntR) (H : HiAt w0 w b h vl vs rs) (hU : Lib.Utf8Tabs 0 1 w0.toWorld) (url : ByteArray) (m : Msg) (sn sp : Option Addr) (nn cn np cp : Nat) (hm : MsgAt (fun k => w0.heap.size ≤ k) w (.slice sn nn cn) (.slice sp np cp) m) (hfit : MsgFit m) (ha : allowedB m = true)
    (hl : h.list.length ≤ 60) (hsl : h.sleeping.length ≤ 900) (hnx : 0 ≤ h.next ∧ h.next ≤ 1000000) :
    Calls Tryd.prog 21 #[.pointer (some ⟨b, 0, none⟩), .string url, .agg #[.slice sn nn cn, .slice sp np cp]] w fun z w' => ∃ zv, z = .returned (.tuple #[zv, .int .i64 0]) ∧ OpV w0 w b (Mut b vl vs) (pushM h url m) (pushV h url m) zv w' := by
  have HMLT := Lib.hid H.mutLt
  have HB0 : Hid (w0.heap.size ≤ w.heap.size) := Lib.hid H.chg.size
  obtain ⟨w06, hw6e, hx6, H1⟩ := H.beside2 (.cells #[.slice sn nn cn, .slice sp np cp] 32) (.cells #[.int .i64 0, .int .i64 0, .string ⟨#[]⟩, .string ⟨#[]⟩, .slice none 0 0, .slice none 0 0, .int .i64 0, .int .i64 0, .int .i64 0, .bool false, .bool false, .slice none 0 0] 40)
  have HW6E := Lib.hid hw6e
  have HX6 := Lib.hid hx6
  have hb6 := alloc_block (w.alloc (.cells #[.slice sn nn cn, .slice sp np cp] 32)) (.cells #[.int .i64 0, .int .i64 0, .string ⟨#[]⟩, .string ⟨#[]⟩, .slice none 0 0, .slice none 0 0, .int .i64 0, .int .i64 0, .int .i64 0, .bool false, .bool false, .slice none 0 0] 40)
  rw [World.size_alloc] at hb6
  have HB6 := Lib.hid hb6
  have hb5 := alloc_old (.cells #[.int .i64 0, .int .i64 0, .string ⟨#[]⟩, .string ⟨#[]⟩, .slice none 0 0, .slice none 0 0, .int .i64 0, .int .i64 0, .int .i64 0, .bool false, .bool false, .slice none 0 0] 40) (alloc_block w (.cells #[.slice sn nn cn, .slice sp np cp] 32))
  have HB5 := Lib.hid hb5
  have HC1 := Lib.hid ((Chg.alloc (fun _ => False) w (.cells #[.slice sn nn cn, .slice sp np cp] 32)).allocR (.cells #[.int .i64 0, .int .i64 0, .string ⟨#[]⟩, .string ⟨#[]⟩, .slice none 0 0, .slice none 0 0, .int .i64 0, .int .i64 0, .int .i64 0, .bool false, .bool false, .slice none 0 0] 40))
  have HS1 : Hid (((w.alloc (.cells #[.slice sn nn cn, .slice sp np cp] 32)).alloc (.cells #[.int .i64 0, .int .i64 0, .string ⟨#[]⟩, .string ⟨#[]⟩, .slice none 0 0, .slice none 0 0, .int .i64 0, .int .i64 0, .int .i64 0, .bool false, .bool false, .slice none 0 0] 40)).heap.size = w.heap.size + 1 + 1) := Lib.hid (by rw [World.size_alloc, World.size_alloc])
  have HH1 := Lib.hid H1
  have y0 := cell_of_block (i := 0) hb5 rfl
  have y1 := cell_of_block (i := 1) hb5 rfl
  simp only [List.getElem_toArray, List.getElem_cons_zero, List.getElem_cons_succ] at y0 y1
  have HAL := Lib.hid (allowed_any _ sn sp nn cn np cp _ m (hm.chg HC1.out (fun _ _ x => x.elim) (fun _ _ x => x)) hfit (utf8_past hU (H.chg.trans' HC1.out)))
  rw [ha] at HAL
  have HMS := Lib.hid (fun W (hc : Chg (fun k => w0.heap.size ≤ k) w W) => hm.chg (D' := fun k => w0.heap.size ≤ k) hc (fun _ _ x => x) (fun _ _ x => x))
  have HFO := Lib.hid hfit.ok
  have HL := Lib.hid hl
  have HSL := Lib.hid hsl
  have HNX := Lib.hid hnx
  have HLO := Lib.hid H.lo
  have HOK := Lib.hid H.ok
  clear H H1 hw6e hx6 hb6 hb5 hm hfit ha hU hl hsl hnx
  go_enter Tryd.func21, Tryd.ntmps21
  go_upto_region 1 with fail
  generalize (w.alloc (.cells #[.slice sn nn cn, .slice sp np cp] 32)).alloc (.cells #[.int .i64 0, .int .i64 0, .string ⟨#[]⟩, .string ⟨#[]⟩, .slice none 0 0, .slice none 0 0, .int .i64 0, .int .i64 0, .int .i64 0, .bool false, .bool false, .slice none 0 0] 40) = w1 at *
  generalize hb5e : w.heap.size = b5 at HB5 HB6 HX6 HS1 y0 y1 ⊢
  have HB5E := Lib.hid hb5e
  clear hb5e
  generalize hb6e : b5 + 1 = b6 at HB6 HX6 HS1 ⊢
  have HB6E := Lib.hid hb6e
  clear hb6e
  go_upto_region 3 with (go_at_call 42; refine HAL.out.mono ?_; rintro _ w3 ⟨rfl, hc3⟩)
  have HC3 := Lib.hid (HC1.out.trans' hc3)
  have HB53 := Lib.hid (hc3.keep HB5.out (fun x => x))
  have HB63 := Lib.hid (hc3.keep HB6.out (fun x => x))
  have HS3 := Lib.hid hc3.size
  have h3 := HH1.out.still hc3
  have HH3 := Lib.hid h3
  have HCU := Lib.hid (current_any w06 w3 b h vl vs rs h3 (curE h) (curE_get h HOK.out))
  unfold EntC at HCU
  generalize hce : curE h = e at HCU
  have HCE := Lib.hid hce
  clear hce h3 hc3 y0 y1 HB5 HB6 HC1 HH1 HAL
  go_upto_region 4 with (go_at_call 19; refine HCU.out.mono ?_; rintro _ w4 ⟨vn4, vp4, rfl, hc4, hm4⟩; obtain ⟨⟨qn, mn, dn, rfl⟩, qp, mp, dp, rfl⟩ := hm4.vals)
  obtain ⟨w08, hw8e, hx8, h5⟩ := (HH3.out.still hc4).beside (.cells #[.int .i64 e.id, .int .i64 e.page, .string e.url, .string e.title, .slice qn mn dn, .slice qp mp dp, .int .i64 e.x, .int .i64 e.y] 34)
  have HW8E := Lib.hid (hw8e.trans HW6E.out)
  have HB8 := Lib.hid (alloc_block w4 (.cells #[.int .i64 e.id, .int .i64 e.page, .string e.url, .string e.title, .slice qn mn dn, .slice qp mp dp, .int .i64 e.x, .int .i64 e.y] 34))
  have hca := hc4.allocR (.cells #[.int .i64 e.id, .int .i64 e.page, .string e.url, .string e.title, .slice qn mn dn, .slice qp mp dp, .int .i64 e.x, .int .i64 e.y] 34)
  have HC5 := Lib.hid (HC3.out.trans' hca)
  have HB55 := Lib.hid (hca.keep HB53.out (fun x => x))
  have HB65 := Lib.hid (hca.keep HB63.out (fun x => x))
  have HS4 := Lib.hid hc4.size
  have HS5 := Lib.hid (World.size_alloc w4 (.cells #[.int .i64 e.id, .int .i64 e.page, .string e.url, .string e.title, .slice qn mn dn, .slice qp mp dp, .int .i64 e.x, .int .i64 e.y] 34))
  have HH5 := Lib.hid h5
  have HX8 := Lib.hid hx8
  clear hca h5 hx8 hw8e hc4 hm4 HCU
  generalize w4.alloc (.cells #[.int .i64 e.id, .int .i64 e.page, .string e.url, .string e.title, .slice qn mn dn, .slice qp mp dp, .int .i64 e.x, .int .i64 e.y] 34) = w5 at *
  generalize hb8 : w4.heap.size = b8 at HB8 HX8 HS5 HS4 ⊢
  clear hb8
  have HB58 : Hid (b5 < b8 ∧ b6 < b8) := Lib.hid (by have := HS1.out; have := HS3.out; have := HS4.out; have := HB6E.out; omega)
  have hb5e := HB55.out
  have y0 := cell_of_block (i := 0) hb5e rfl
  have y1 := cell_of_block (i := 1) hb5e rfl
  simp only [List.getElem_toArray, List.getElem_cons_zero, List.getElem_cons_succ] at y0 y1
  have HS4 : Hid (w5.cell? ⟨b5, 0, none⟩ = some (.slice sn nn cn) ∧ w5.cell? ⟨b5, 1, none⟩ = some (.slice sp np cp)) := Lib.hid ⟨y0, y1⟩
  clear hb5e y0 y1
  refine wp_region_held_split 5 (fun w' => w'.cell? ⟨b5, 0, none⟩ = some (.slice sn nn cn) ∧ w'.cell? ⟨b5, 1, none⟩ = some (.slice sp np cp)) (by kernel_rfl) (by kernel_rfl) ?_ (fun hHeld => ?_)
  · (first | exact HS4.out | exact HKS.out _ (Chg.refl _ _) | exact zc)
  simp only [List.take_succ_cons, List.take_zero]
  have HKS : Hid (∀ W, Chg (fun _ => False) w5.drew W → W.cell? ⟨b5, 0, none⟩ = some (.slice sn nn cn) ∧ W.cell? ⟨b5, 1, none⟩ = some (.slice sp np cp)) := Lib.hid (fun W hc => ⟨hc.cell HS4.out.1, hc.cell HS4.out.2⟩)
  have HWD : Hid (Chg (fun _ => False) w5 w5.drew) := Lib.hid (Chg.refl _ w5).drewR
  generalize w5.drew = wD at *
  have hbD := HWD.out.keep HB8.out (fun x => x)
  have y2 := cell_of_block (i := 2) hbD rfl
  have yf2 := frozen_of_block (i := 2) hbD
  simp only [List.getElem_toArray, List.getElem_cons_zero, List.getElem_cons_succ] at y2
  have hb58 : b5 ≠ b8 := by have := HB58.out; omega
  have zc : (wD.setCell ⟨b8, 2, none⟩ (.string url)).cell? ⟨b5, 0, none⟩ = some (.slice sn nn cn) ∧ (wD.setCell ⟨b8, 2, none⟩ (.string url)).cell? ⟨b5, 1, none⟩ = some (.slice sp np cp) := ⟨(Chg.setCell wD ⟨b8, 2, none⟩ _).cellS (HWD.out.cell HS4.out.1) hb58, (Chg.setCell wD ⟨b8, 2, none⟩ _).cellS (HWD.out.cell HS4.out.2) hb58⟩
  refine wpAnyH_take (i := 0) (v := ?_) rfl (by kernel_rfl) (by kernel_rfl) (by kernel_rfl) (fun _ _ _ h => h) (Or.inl ⟨by rfl, ?_⟩) (by assumption) ?_
  rotate_left
  · (intro wq hSw; (try dsimp only at hSw); go_simp; (try with_reducible rfl))
  simp only [Act.put, List.getElem_toArray, List.getElem_cons_zero, List.getElem_cons_succ, List.setIfInBounds_toArray, List.set_cons_zero, List.set_cons_succ]
  refine wpAnyH_take (i := 1) (v := ?_) rfl (by kernel_rfl) (by kernel_rfl) (by kernel_rfl) (fun _ _ _ h => h) (Or.inl ⟨by rfl, ?_⟩) (by assumption) ?_
  rotate_left
  · (intro wq hSw; (try dsimp only at hSw); go_simp; (try with_reducible rfl))
  simp only [Act.put, List.getElem_toArray, List.getElem_cons_zero, List.getElem_cons_succ, List.setIfInBounds_toArray, List.set_cons_zero, List.set_cons_succ]
  refine wpAnyH_take (i := 2) (v := ?_) rfl (by kernel_rfl) (by kernel_rfl) (by kernel_rfl) (fun _ _ _ h => h) (Or.inl ⟨by rfl, ?_⟩) (by assumption) ?_
  rotate_left
  · (intro wq hSw; (try dsimp only at hSw); go_simp; (try with_reducible rfl))
  simp only [Act.put, List.getElem_toArray, List.getElem_cons_zero, List.getElem_cons_succ, List.setIfInBounds_toArray, List.set_cons_zero, List.set_cons_succ]
  refine wpAnyH_ready (rs := [3]) (by kernel_rfl) (by simp) ?_
  refine AllReadyH.cons (by simp only [List.getElem?_toArray, List.getElem?_cons_succ, List.getElem?_cons_zero]; rfl) (fun K hK => ?_) AllReadyH.nil
  go_simp
  refine hK.out _ _ ?_ (fun hHeld => ?_)
  · (first | exact HS4.out | exact HKS.out _ (Chg.refl _ _) | exact zc)
  clear hK K
  (try simp only [Act.put, List.getElem_toArray, List.getElem_cons_zero, List.getElem_cons_succ, List.setIfInBounds_toArray, List.set_cons_zero, List.set_cons_succ])
  refine wpAnyH_take (i := 4) (v := ?_) rfl (by kernel_rfl) (by kernel_rfl) (by kernel_rfl) (fun _ _ _ h => h) (Or.inl ⟨by rfl, ?_⟩) (by assumption) ?_
  rotate_left
  · (intro wq hSw; (try dsimp only at hSw); go_simp; (try with_reducible rfl))
  simp only [Act.put, List.getElem_toArray, List.getElem_cons_zero, List.getElem_cons_succ, List.setIfInBounds_toArray, List.set_cons_zero, List.set_cons_succ]
  refine wpAnyH_done (by kernel_rfl) ?_ _
  change wpList _ _ _ _ _ _
  simp only [List.drop_succ_cons, List.drop_zero]
  have hb2s := setCell_block (i := 2) (.string url) hbD
  have h2s : (wD.setCell ⟨b8, 2, none⟩ (.string url)).heap[b8]? = some (.cells #[.int .i64 e.id, .int .i64 e.page, .string url, .string e.title, .slice qn mn dn, .slice qp mp dp, .int .i64 e.x, .int .i64 e.y] 34 (0, 0)) := by simpa using hb2s
  have y4 := cell_of_block (i := 4) h2s rfl
  have yf4 := frozen_of_block (i := 4) h2s
  have hb4s := setCell_block (i := 4) (.slice sn nn cn) h2s
  have h4s : ((wD.setCell ⟨b8, 2, none⟩ (.string url)).setCell ⟨b8, 4, none⟩ (.slice sn nn cn)).heap[b8]? = some (.cells #[.int .i64 e.id, .int .i64 e.page, .string url, .string e.title, .slice sn nn cn, .slice qp mp dp, .int .i64 e.x, .int .i64 e.y] 34 (0, 0)) := by simpa using hb4s
  have y5 := cell_of_block (i := 5) h4s rfl
  have yf5 := frozen_of_block (i := 5) h4s
  have hb5s := setCell_block (i := 5) (.slice sp np cp) h4s
  have h5s : (((wD.setCell ⟨b8, 2, none⟩ (.string url)).setCell ⟨b8, 4, none⟩ (.slice sn nn cn)).setCell ⟨b8, 5, none⟩ (.slice sp np cp)).heap[b8]? = some (.cells #[.int .i64 e.id, .int .i64 e.page, .string url, .string e.title, .slice sn nn cn, .slice sp np cp, .int .i64 e.x, .int .i64 e.y] 34 (0, 0)) := by simpa using hb5s
  simp only [List.getElem_toArray, List.getElem_cons_zero, List.getElem_cons_succ] at y4 y5
  go_upto_region 5 with fail
  have hcs : Chg (fun k => k = b8) w5 (((wD.setCell ⟨b8, 2, none⟩ (.string url)).setCell ⟨b8, 4, none⟩ (.slice sn nn cn)).setCell ⟨b8, 5, none⟩ (.slice sp np cp)) := HWD.out.trans (chg_put4 (chg_put4 (Chg.setCell wD ⟨b8, 2, none⟩ _))) (fun _ _ x => x.elim) (fun _ _ x => x)
  have HX9 : Hid (∀ k, k = b6 ∨ k = b8 ∨ w0.X k → w08.X k) := Lib.hid (fun k x => by
    rcases x with x | x | x
    · exact (HX8.out k).2 (.inl ((HX6.out k).2 (.inr (.inr x))))
    · exact (HX8.out k).2 (.inr x)
    · exact (HX8.out k).2 (.inl ((HX6.out k).2 (.inl x))))
  have HB8S : Hid (w0.heap.size ≤ b8 ∧ w.heap.size ≤ b8) := Lib.hid (by have := HB0.out; have := HB5E.out; have := HB58.out; omega)
  have h6 := HH5.out.write hcs (fun k x => HX9.out k (.inr (.inl x))) (fun k x => by show w08.toWorld.heap.size ≤ k; rw [HW8E.out, show k = b8 from x]; exact HB8S.out.1)
  have HB86 := Lib.hid h5s
  have HB66 := Lib.hid (hcs.keep HB65.out (fun x => by have := HB58.out; omega))
  have HC6 := Lib.hid (HC5.out.trans hcs (fun k _ x => (x.elim : Mut b vl vs k ∨ w.heap.size ≤ k)) (fun k _ x => .inr (by have := HB8S.out.2; have : k = b8 := x; omega)))
  have HS56 := Lib.hid hcs.size
  have HH6 := Lib.hid h6
  have hadd := add_any w08 _ b h vl vs rs h6 (fun k => w0.heap.size ≤ k) (pushE h url m) (.slice sn nn cn) (.slice sp np cp) HLO.out (HMS.out _ (HC6.out.mono (fun k hk x => x.elim (HLO.out k) (fun y => by have := HB0.out; omega)))) HFO.out HL.out (by have := HNX.out; omega)
  unfold EntC at hadd
  have hpe : pushE h url m = ⟨e.id, e.page, url, e.title, m, e.x, e.y⟩ := by unfold pushE; rw [HCE.out]
  rw [show (pushE h url m).id = e.id by rw [hpe], show (pushE h url m).page = e.page by rw [hpe], show (pushE h url m).url = url by rw [hpe], show (pushE h url m).title = e.title by rw [hpe], show (pushE h url m).x = e.x by rw [hpe], show (pushE h url m).y = e.y by rw [hpe]] at hadd
  have HADD := Lib.hid hadd
  have l0 := cell_of_block (i := 0) h5s rfl
  have l1 := cell_of_block (i := 1) h5s rfl
  have l2 := cell_of_block (i := 2) h5s rfl
  have l3 := cell_of_block (i := 3) h5s rfl
  have l4 := cell_of_block (i := 4) h5s rfl
  have l5 := cell_of_block (i := 5) h5s rfl
  have l6 := cell_of_block (i := 6) h5s rfl
  have l7 := cell_of_block (i := 7) h5s rfl
  simp only [List.getElem_toArray, List.getElem_cons_zero, List.getElem_cons_succ] at l0 l1 l2 l3 l4 l5 l6 l7
  clear hadd hb2s h2s y4 yf4 hb4s h4s y5 yf5 hb5s h5s hcs h6 hpe hbD y2 yf2 zc hb58 HKS hHeld HS4 HWD HB55
  generalize ((wD.setCell ⟨b8, 2, none⟩ (.string url)).setCell ⟨b8, 4, none⟩ (.slice sn nn cn)).setCell ⟨b8, 5, none⟩ (.slice sp np cp) = w6 at *
  go_upto_region 6 with (go_at_call 43; refine HADD.out.mono ?_; rintro _ w7 ⟨rfl, vl7, vs7, rs7, h7, hc7, hm7⟩)
  have h7' : HiAt w08 w7 b (pushH h url m) vl7 vs7 rs7 := h7
  have HM7 := Lib.hid hm7
  have HB8N : Hid (¬ Mut b vl vs b8) := Lib.hid (fun x => by have := HMLT.out b8 x; have := HB5E.out; have := HB58.out; omega)
  have HB8N7 : Hid (¬ Mut b vl7 vs7 b8) := Lib.hid (fun x => HB8N.out (hm7 b8 (by have := HS5.out; have := HS56.out; omega) x))
  have HB6N7 : Hid (¬ Mut b vl7 vs7 b6) := Lib.hid (fun x => by
    have h1 := hm7 b6 (by have := HS5.out; have := HS56.out; have := HB58.out; omega) x
    have := HMLT.out b6 h1
    have := HB5E.out
    have := HB6E.out
    omega)
  have HB87 := Lib.hid (hc7.keep HB86.out HB8N.out)
  have HB67 := Lib.hid (hc7.keep HB66.out (fun x => by have := HMLT.out b6 x; have := HB5E.out; have := HB6E.out; omega))
  have HC7 := Lib.hid (HC6.out.trans hc7 (fun _ _ x => x) (fun k _ x => .inl x))
  have HS67 := Lib.hid hc7.size
  have HH7 := Lib.hid h7'
  clear h7 h7' hc7 hm7 l0 l1 l2 l3 l4 l5 l6 l7 HADD
  have HCU7 := Lib.hid (fun W (hc : Chg (fun _ => False) w7 W) => current_any w08 W b (pushH h url m) vl7 vs7 rs7 (HH7.out.still hc) (curE (pushH h url m)) (curE_get _ HH7.out.ok))
  unfold EntC at HCU7
  generalize hce2 : curE (pushH h url m) = e2 at HCU7
  have HCE2 := Lib.hid hce2
  clear hce2
  have HCL := Lib.hid (fun W (hc : Chg (fun _ => False) w7 W) => clean_any w08 W b (pushH h url m) vl7 vs7 rs7 (HH7.out.still hc))
  have q1 := cell_of_block (i := 1) HB87.out rfl
  simp only [List.getElem_toArray, List.getElem_cons_zero, List.getElem_cons_succ] at q1
  have HS6 : Hid (w7.cell? ⟨b8, 1, none⟩ = some (.int .i64 e.page)) := Lib.hid q1
  have CEL : Hid (∀ W1 W2, Chg (fun _ => False) w7 W1 → Chg (Mut b vl7 vs7) W1 W2 → W2.cell? ⟨b8, 1, none⟩ = some (.int .i64 e.page)) := Lib.hid (fun W1 W2 h1 h2 => h2.cellS (h1.cell HS6.out) HB8N7.out)
  clear q1
  refine wp_region_held_split 7 (fun w' => w'.cell? ⟨b8, 1, none⟩ = some (.int .i64 e.page)) (by kernel_rfl) (by kernel_rfl) ?_ (fun hHeld => ?_)
  · (first | exact HS6.out | exact HKS.out _ (Chg.refl _ _) | exact zc)
  simp only [List.take_succ_cons, List.take_zero]
  have HKS : Hid (∀ W, Chg (fun _ => False) w7.drew W → W.cell? ⟨b8, 1, none⟩ = some (.int .i64 e.page)) := Lib.hid (fun W hc => hc.cell HS6.out)
  have HWD : Hid (Chg (fun _ => False) w7 w7.drew) := Lib.hid (Chg.refl _ w7).drewR
  generalize w7.drew = wD at *
  refine wpAnyH_take (i := 0) (v := ?_) rfl (by kernel_rfl) (by kernel_rfl) (by kernel_rfl) (fun _ _ _ h => h) (Or.inl ⟨by rfl, ?_⟩) (by assumption) ?_
  rotate_left
  · (intro wq hSw; (try dsimp only at hSw); go_simp; (try with_reducible rfl))
  simp only [Act.put, List.getElem_toArray, List.getElem_cons_zero, List.getElem_cons_succ, List.setIfInBounds_toArray, List.set_cons_zero, List.set_cons_succ]
  refine wpAnyH_take (i := 2) (v := ?_) rfl (by kernel_rfl) (by kernel_rfl) (by kernel_rfl) (fun _ _ _ h => h) (Or.inl ⟨by rfl, ?_⟩) (by assumption) ?_
  rotate_left
  · (intro wq hSw; (try dsimp only at hSw); go_simp; (try with_reducible rfl))
  simp only [Act.put, List.getElem_toArray, List.getElem_cons_zero, List.getElem_cons_succ, List.setIfInBounds_toArray, List.set_cons_zero, List.set_cons_succ]
  refine wpAnyH_take (i := 3) (v := ?_) rfl (by kernel_rfl) (by kernel_rfl) (by kernel_rfl) (fun _ _ _ h => h) (Or.inl ⟨by rfl, ?_⟩) (by assumption) ?_
  rotate_left
  · (intro wq hSw; (try dsimp only at hSw); go_simp; (try with_reducible rfl))
  simp only [Act.put, List.getElem_toArray, List.getElem_cons_zero, List.getElem_cons_succ, List.setIfInBounds_toArray, List.set_cons_zero, List.set_cons_succ]
  refine wpAnyH_take (i := 4) (v := ?_) rfl (by kernel_rfl) (by kernel_rfl) (by kernel_rfl) (fun _ _ _ h => h) (Or.inl ⟨by rfl, ?_⟩) (by assumption) ?_
  rotate_left
  · (intro wq hSw; (try dsimp only at hSw); go_simp; (try with_reducible rfl))
  simp only [Act.put, List.getElem_toArray, List.getElem_cons_zero, List.getElem_cons_succ, List.setIfInBounds_toArray, List.set_cons_zero, List.set_cons_succ]
  refine wpAnyH_ready (rs := [1]) (by kernel_rfl) (by simp) ?_
  refine AllReadyH.cons (by simp only [List.getElem?_toArray, List.getElem?_cons_succ, List.getElem?_cons_zero]; rfl) (fun K hK => ?_) AllReadyH.nil
  (go_simp; go_at_call 19; refine (HCU7.out _ HWD.out).mono ?_; rintro _ w8 ⟨vn8, vp8, rfl, hc8, hm8⟩; obtain ⟨⟨rn, mn2, dn2, rfl⟩, rp, mp2, dp2, rfl⟩ := hm8.vals; have HM8 := Lib.hid hm8; have HC8 := Lib.hid (HWD.out.trans' hc8); have zc := HKS.out _ hc8; clear hm8 hc8; go_simp)
  refine hK.out _ _ ?_ (fun hHeld => ?_)
  · (first | exact HS6.out | exact HKS.out _ (Chg.refl _ _) | exact zc)
  clear hK K
  (try simp only [Act.put, List.getElem_toArray, List.getElem_cons_zero, List.getElem_cons_succ, List.setIfInBounds_toArray, List.set_cons_zero, List.set_cons_succ])
  refine wpAnyH_ready (rs := [5]) (by kernel_rfl) (by simp) ?_
  refine AllReadyH.cons (by simp only [List.getElem?_toArray, List.getElem?_cons_succ, List.getElem?_cons_zero]; rfl) (fun K hK => ?_) AllReadyH.nil
  (go_simp; go_at_call 44; refine (HCL.out _ HC8.out).mono ?_; rintro _ w9 ⟨vo, vs9, rfl, h9, hc9, hsub9, hrow9, hnew9⟩; obtain ⟨ao, co, rfl, -, -⟩ := hrow9.slice; have zc := CEL.out _ _ HC8.out hc9; have HH9 := Lib.hid h9; have HC9 := Lib.hid hc9; have HSUB := Lib.hid hsub9; have HROW := Lib.hid hrow9; have HNEW := Lib.hid hnew9; clear h9 hc9 hsub9 hrow9 hnew9; go_simp)
  refine hK.out _ _ ?_ (fun hHeld => ?_)
  · (first | exact HS6.out | exact HKS.out _ (Chg.refl _ _) | exact zc)
  clear hK K
  (try simp only [Act.put, List.getElem_toArray, List.getElem_cons_zero, List.getElem_cons_succ, List.setIfInBounds_toArray, List.set_cons_zero, List.set_cons_succ])
  have HVG : Hid (goneL (pushH h url m) h.sleeping = goneL (pushH h url m) (pushH h url m).sleeping) := Lib.hid rfl
  generalize goneL (pushH h url m) (pushH h url m).sleeping = gone at *
  refine wpAnyH_take (i := 6) (v := ?_) rfl (by kernel_rfl) (by kernel_rfl) (by kernel_rfl) (fun _ _ _ h => h) (Or.inl ⟨by rfl, ?_⟩) (by assumption) ?_
  rotate_left
  · (intro wq hSw; (try dsimp only at hSw); go_simp; (try with_reducible rfl))
  simp only [Act.put, List.getElem_toArray, List.getElem_cons_zero, List.getElem_cons_succ, List.setIfInBounds_toArray, List.set_cons_zero, List.set_cons_succ]
  refine wpAnyH_done (by kernel_rfl) ?_ _
  change wpList _ _ _ _ _ _
  simp only [List.drop_succ_cons, List.drop_zero]
  have hb6e := HC9.out.keep (HC8.out.keep HB67.out (fun x => x)) HB6N7.out
  obtain ⟨z0, q0, z1, q1, z2, q2, z3, q3, z4, q4, z5, q5, z6, q6, z7, q7, z8, q8, z9, q9, z10, q10, z11, q11, hbf, hcs⟩ := store12 hb6e (.int .i64 e2.id) (.int .i64 e2.page) (.string e2.url) (.string e2.title) (.slice rn mn2 dn2) (.slice rp mp2 dp2) (.int .i64 e2.x) (.int .i64 e2.y) (.int .i64 e.page) (.bool true) (.bool false) (.slice ao gone.length co)
  have HCS := Lib.hid hcs
  clear hcs hb6e zc hHeld HKS
  go_wp2_with fail
  generalize ((((((((((((w9.setCell ⟨b6, 0, none⟩ (.int .i64 e2.id)).setCell ⟨b6, 1, none⟩ (.int .i64 e2.page)).setCell ⟨b6, 2, none⟩ (.string e2.url)).setCell ⟨b6, 3, none⟩ (.string e2.title)).setCell ⟨b6, 4, none⟩ (.slice rn mn2 dn2)).setCell ⟨b6, 5, none⟩ (.slice rp mp2 dp2)).setCell ⟨b6, 6, none⟩ (.int .i64 e2.x)).setCell ⟨b6, 7, none⟩ (.int .i64 e2.y)).setCell ⟨b6, 8, none⟩ (.int .i64 e.page)).setCell ⟨b6, 9, none⟩ (.bool true)).setCell ⟨b6, 10, none⟩ (.bool false)).setCell ⟨b6, 11, none⟩ (.slice ao gone.length co)) = wz at *
  refine bodyPost_ret (results_cell_row_tmp48 rfl _ _ b6 #[.int .i64 e2.id, .int .i64 e2.page, .string e2.url, .string e2.title, .slice rn mn2 dn2, .slice rp mp2 dp2, .int .i64 e2.x, .int .i64 e2.y, .int .i64 e.page, .bool true, .bool false, .slice ao gone.length co] (by rfl) (run_loadVar_row _ b6 40 40 _ _ _ hbf Tryd.underlying40 rfl (by kernel_rfl))) rfl ?_
  have hb6n : ∀ k, k = b6 → w0.heap.size ≤ k ∧ k < w7.heap.size ∧ w.heap.size ≤ k := fun k e => by
    have := HB5E.out
    have := HB6E.out
    have := HB0.out
    have := HB58.out
    have := HS5.out
    have := HS56.out
    have := HS67.out
    omega
  have hw7 : w.heap.size ≤ w7.heap.size := HC7.out.size
  have hV : pushV h url m = ⟨e2, e.page, true, false, gone⟩ := by unfold pushV; rw [HCE2.out, HCE.out, HVG.out]
  rw [hV]
  have hcF : Chg (fun k => k < w7.heap.size) w8 wz := HC9.out.trans HCS.out (fun k _ x => HH7.out.mutLt k x) (fun k _ x => (hb6n k x).2.1)
  have hms : MsgAt (fun k => k < w.heap.size ∨ Mut b vl7 vs9 k) wz (.slice rn mn2 dn2) (.slice rp mp2 dp2) e2.msg := by
    refine HM8.out.chg (hcF) (fun k _ x => ?_) (fun k hk x => ?_)
    · show k < wD.heap.size
      exact Nat.lt_of_lt_of_le x HWD.out.size
    · show k < wD.heap.size
      refine Nat.lt_of_lt_of_le ?_ HWD.out.size
      rcases x with x | x
      · omega
      · exact HH7.out.mutLt k (HSUB.out k x)
  refine ⟨_, rfl, vl7, vs9, rs7, ?_, ?_, fun k hk x => HM7.out k (Nat.lt_of_lt_of_le hk HC6.out.size) (HSUB.out k x), .slice rn mn2 dn2, .slice rp mp2 dp2, .slice ao gone.length co, rfl, hms, ?_, ?_⟩
  · refine (HH9.out.write HCS.out (fun k x => HX9.out k (.inl x)) (fun k x => ?_)).shrink HW8E.out (fun k x => HX9.out k (.inr (.inr x)))
    show w08.toWorld.heap.size ≤ k
    rw [HW8E.out]
    exact (hb6n k x).1
  · exact (((HC7.out.trans HC8.out (fun _ _ x => x) (fun _ _ x => x.elim)).trans HC9.out (fun _ _ x => x) (fun k hk x => .inl (HM7.out k (Nat.lt_of_lt_of_le hk HC6.out.size) x))).trans HCS.out (fun _ _ x => x) (fun k _ x => .inr (hb6n k x).2.2)).mono (fun k hk x => x.elim id (fun y => by omega))
  · exact HROW.out.chg HCS.out (fun k hk x => by have := HNEW.out k hk; have := (hb6n k x).2.1; have := HC8.out.size; omega)
  · intro k hk x
    have h1 := HNEW.out k hk
    have h2 := HC8.out.size
    rcases x with x | x
    · omega
    · have := HH7.out.mutLt k (HSUB.out k x); omega
end Go.Proofs.YtiecgbmeobpomaaDoor
