/-
  The reference of layer 47: simple, different.
  The reference of layer 47: entries.
  The reference of layer 47: order.
  The reference of layer 47: Valid.
  The reference of layer 48: May.
-/
import Derived.Test.YtiecgbmeobpomaaDoorPHistoryNewl
import Derived.Test.YtiecgbmeobpomaaDoorPHistoryNewd
namespace Go.Proofs.YtiecgbmeobpomaaDoor
open Go.RowKit
set_option linter.unusedVariables false
set_option linter.unusedSimpArgs false

set_option maxHeartbeats 1600000 in
set_option maxRecDepth 100000 in
theorem simple_yes (w : World) (kind int : Int) (str : ByteArray) (pk pd : Option Addr) (ck cd : Nat) (hU : Lib.Utf8Tabs 0 1 w) (hs : str.size ≤ 35184372088832) (h4 : ¬ 4 < kind) (h0 : ¬ kind < 0) (b : Bool)
    (hb : b = true ↔ normM ⟨kind, int, str, 0⟩ = ⟨kind, int, str, 0⟩) :
    Calls Tryd.prog 60 #[.agg #[.int .i64 kind, .int .i64 int, .string str, .slice pk 0 ck, .slice pd 0 cd]] w fun e w' => e = .returned (.bool b) ∧ Chg (fun _ => False) w w' := by
  obtain ⟨k1, k2⟩ := normM_kind (x := ⟨kind, int, str, 0⟩) (by show (0 : Int) ≤ kind; omega) (by show kind ≤ (4 : Int); omega)
  have HC := Lib.hid ((Chg.alloc (fun _ => False) w (.cells #[.int .i64 kind, .int .i64 int, .string str, .slice pk 0 ck, .slice pd 0 cd] 85)).allocR (.cells #[.int .i64 kind, .int .i64 int, .string str, .int .i64 0] 123))
  have hb3 := alloc_block (w.alloc (.cells #[.int .i64 kind, .int .i64 int, .string str, .slice pk 0 ck, .slice pd 0 cd] 85)) (.cells #[.int .i64 kind, .int .i64 int, .string str, .int .i64 0] 123)
  rw [World.size_alloc] at hb3
  have HB3 := Lib.hid hb3
  have HNM := Lib.hid (fun W (hc : Chg (fun _ => False) w W) => rnormal_any ⟨kind, int, str, 0⟩ W hs (utf8_stay hU hc))
  have HIFF := Lib.hid hb
  clear hb3 hU hb hs
  generalize normM ⟨kind, int, str, 0⟩ = nv at *
  obtain ⟨nk, ni, ns, nr⟩ := nv
  simp only at k1 k2
  obtain rfl : kind = nk := k1.symm
  subst k2
  go_enter Tryd.func60, Tryd.ntmps60
  go_upto_region 4 with fail
  generalize (w.alloc (.cells #[.int .i64 kind, .int .i64 int, .string str, .slice pk 0 ck, .slice pd 0 cd] 85)).alloc (.cells #[.int .i64 kind, .int .i64 int, .string str, .int .i64 0] 123) = w4 at *
  generalize w.heap.size + 1 = b3 at *
  have m0 : ∀ z : Later w4, z.at_.cell? ⟨b3, 0, none⟩ = some (.int .i64 kind) := Later.cell (cell_of_block (i := 0) HB3.out rfl)
  have m1 : ∀ z : Later w4, z.at_.cell? ⟨b3, 1, none⟩ = some (.int .i64 int) := Later.cell (cell_of_block (i := 1) HB3.out rfl)
  have m2 : ∀ z : Later w4, z.at_.cell? ⟨b3, 2, none⟩ = some (.string str) := Later.cell (cell_of_block (i := 2) HB3.out rfl)
  have m3 : ∀ z : Later w4, z.at_.cell? ⟨b3, 3, none⟩ = some (.int .i64 0) := Later.cell (cell_of_block (i := 3) HB3.out rfl)
  clear h4 h0
  by_cases hi : ni = int
  · subst hi
    by_cases ht : ns.toList = str.toList
    · have ht2 := toList_inj ht
      subst ht2
      obtain rfl : b = true := HIFF.out.2 rfl
      refine wp_region_later (by kernel_rfl) (by kernel_rfl) ?_
      repeat (go_big_quiet_step ((go_at_call 83; exact Later.call (HNM.out _ (HC.out.trans' (Later.chg _))))))
      refine wpQuiet_nil ?_
      rintro _ ⟨y, rfl⟩
      go_wp2_with fail
      go_ret
      exact ⟨by simp, HC.out.trans' y.chg⟩
    · have z : (ns.toList == str.toList) = false := beq_false_of_ne ht
      obtain rfl : b = false := by
        cases b with
        | false => rfl
        | true =>
          have := HIFF.out.1 rfl
          simp only [Vl.mk.injEq] at this
          exact (ht (by rw [this.2.2.1])).elim
      refine wp_region_later (by kernel_rfl) (by kernel_rfl) ?_
      repeat (go_big_quiet_step ((go_at_call 83; exact Later.call (HNM.out _ (HC.out.trans' (Later.chg _))))))
      refine wpQuiet_nil ?_
      rintro _ ⟨y, rfl⟩
      go_wp2_with fail
      go_ret
      exact ⟨by simp [z], HC.out.trans' y.chg⟩
  · have z : (ni == int) = false := beq_false_of_ne hi
    obtain rfl : b = false := by
      cases b with
      | false => rfl
      | true =>
        have := HIFF.out.1 rfl
        simp only [Vl.mk.injEq] at this
        exact (hi this.2.1).elim
    refine wp_region_later (by kernel_rfl) (by kernel_rfl) ?_
    repeat (go_big_quiet_step ((go_at_call 83; exact Later.call (HNM.out _ (HC.out.trans' (Later.chg _))))))
    refine wpQuiet_nil ?_
    rintro _ ⟨y, rfl⟩
    go_wp2_with fail
    go_ret
    exact ⟨by simp [z], HC.out.trans' y.chg⟩
set_option maxHeartbeats 1600000 in
set_option maxRecDepth 100000 in
theorem simple_no (w : World) (kind int : Int) (str : ByteArray) (pk pd : Option Addr) (nk ck nd cd : Nat) (hk : (nk : Int) ≤ 9223372036854775807 / 2) (hd : (nd : Int) ≤ 9223372036854775807 / 2) (hb : kind < 0 ∨ 4 < kind ∨ 0 < nk + nd) :
    Calls Tryd.prog 60 #[.agg #[.int .i64 kind, .int .i64 int, .string str, .slice pk nk ck, .slice pd nd cd]] w fun e w' => e = .returned (.bool false) ∧ Chg (fun _ => False) w w' := by
  have HC := Lib.hid (Chg.alloc (fun _ => False) w (.cells #[.int .i64 kind, .int .i64 int, .string str, .slice pk nk ck, .slice pd nd cd] 85))
  by_cases h0 : kind < 0
  · clear hb hk hd
    go_enter Tryd.func60, Tryd.ntmps60
    go_wp2_with fail
    go_ret
    exact ⟨rfl, HC.out⟩
  · by_cases h4 : 4 < kind
    · clear hb hk hd
      go_enter Tryd.func60, Tryd.ntmps60
      go_wp2_with fail
      go_ret
      exact ⟨rfl, HC.out⟩
    · have hpos : (0 : Int) < (nk : Int) + (nd : Int) := by omega
      have hw : IntKind.i64.wrap ((nk : Int) + (nd : Int)) = (nk : Int) + (nd : Int) := IntWalk.i64_in _ (by omega)
      clear hb hk hd
      go_enter Tryd.func60, Tryd.ntmps60
      go_wp2_with fail
      go_ret
      exact ⟨rfl, HC.out⟩
/-- knapsackref47.simple. -/
theorem simple_any (w : World) (n : Nod) (pk pd : Option Addr) (ck cd : Nat) (hU : Lib.Utf8Tabs 0 1 w) (hf : NodFit n) :
    Calls Tryd.prog 60 #[.agg #[.int .i64 n.kind, .int .i64 n.int, .string n.str, .slice pk n.keys.length ck, .slice pd n.kids.length cd]] w fun e w' => e = .returned (.bool (simpleB n)) ∧ Chg (fun _ => False) w w' := by
  unfold simpleB
  split
  · rename_i h
    exact simple_no w n.kind n.int n.str pk pd n.keys.length ck n.kids.length cd (by have := hf.fewK.lt; omega) (by have := hf.fewD.lt; omega) h
  · rename_i h
    have hk : n.keys.length = 0 := by omega
    have hd : n.kids.length = 0 := by omega
    rw [hk, hd]
    exact simple_yes w n.kind n.int n.str pk pd ck cd hU hf.str (by omega) (by omega) _ (@decide_eq_true_iff _ (Classical.propDecidable _))

theorem nodup_take_succ {α : Type} {l : List α} {k : Nat} (hk : k < l.length) (h : (l.take k).Nodup) (h2 : ∀ j (hj : j < l.length), j < k → l[k] ≠ l[j]) : (l.take (k + 1)).Nodup := by
  rw [List.take_succ_eq_append_getElem hk, List.nodup_append]
  refine ⟨h, by simp, fun a ha b hb => ?_⟩
  rw [List.mem_singleton] at hb
  subst hb
  obtain ⟨j, hj, rfl⟩ := List.getElem_of_mem ha
  rw [List.length_take] at hj
  rw [List.getElem_take]
  exact fun e => h2 j (by omega) (by omega) e.symm
theorem not_nodup_of {α : Type} {l : List α} {i j : Nat} (hi : i < l.length) (hj : j < l.length) (hij : j < i) (h : l[i] = l[j]) : ¬ l.Nodup := by
  intro hn
  unfold List.Nodup at hn
  exact List.pairwise_iff_getElem.1 hn j i hj hi hij h.symm
set_option maxHeartbeats 1600000 in
set_option maxRecDepth 100000 in
/-- knapsackref47.different. -/
theorem different_any {D : Nat → Prop} (w : World) (v : Value) (l : List ByteArray) (h : SeenN D w 1 v l.length (strC l)) (hf : Few l.length) :
    Calls Tryd.prog 61 #[v] w fun e w' => e = .returned (.bool (diffB l)) ∧ Chg (fun _ => False) w w' := by
  obtain ⟨p, cap, rfl, hc1, hc2, hxl, hp0, hp1⟩ := h
  have hll : (l.length : Int) ≤ 1000000000 := by have := hf.lt; omega
  have HP := Lib.hid hp1
  clear hf hc1 hc2 hxl hp0 hp1
  go_enter Tryd.func61, Tryd.ntmps61
  go_wp2_with fail
  go_loopw [3] (fun i wr => ∃ k : Nat, k ≤ l.length ∧ i = .int .i64 k ∧ Hid (l.take k).Nodup ∧ Hid (Chg (fun _ => False) w wr)) (fun i _ => l.length - (intOf i).toNat)
  case atStart => exact ⟨0, Nat.zero_le _, rfl, Lib.hid (by simp), Lib.hid (Chg.refl _ _)⟩
  case round =>
    obtain ⟨k, hk, rfl, HN, HC⟩ := hrel
    by_cases hlt : k < l.length
    · have k0 : (0 : Int) ≤ (k : Int) := by omega
      have k1 : (k : Int) < (l.length : Int) := by omega
      have w64 : IntKind.i64.wrap ((k : Int) + 1) = ((k + 1 : Nat) : Int) := IntWalk.i64_in _ (by omega)
      obtain ⟨g, off, rfl, -, -, hcell⟩ := HP.out (by omega)
      have HP0 := Lib.hid (fun W (hc : Chg (fun _ => False) w W) => hc.cell (hcell k (.string l[k]) (by simp [strC, hlt])))
      have HCELL := Lib.hid hcell
      have HLT := Lib.hid hlt
      have HNX := Lib.hid (show k + 1 ≤ l.length from hlt)
      have HSU := Lib.hid (nodup_take_succ hlt HN.out)
      have HBAD := Lib.hid (fun j (hj : j < l.length) (hjk : j < k) => not_nodup_of hlt hj hjk)
      generalize hx : l[k] = x at *
      clear hk hlt hcell hx
      go_wp2_with fail
      go_loopw [4] (fun i wx => ∃ j : Nat, j ≤ k ∧ i = .int .i64 j ∧ Hid (∀ (q : Nat) (hq : q < l.length), q < j → x ≠ l[q]) ∧ Hid (Chg (fun _ => False) w wx)) (fun i _ => k - (intOf i).toNat)
      case atStart => exact ⟨0, Nat.zero_le _, rfl, Lib.hid (fun _ _ h => by omega), HC⟩
      case round =>
        obtain ⟨j, hj, rfl, HD, HW⟩ := hrel
        by_cases hjk : j < k
        · have j0 : (0 : Int) ≤ (j : Int) := by omega
          have j1 : (j : Int) < (k : Int) := by omega
          have j2 : (j : Int) < (l.length : Int) := by omega
          have wj : IntKind.i64.wrap ((j : Int) + 1) = ((j + 1 : Nat) : Int) := IntWalk.i64_in _ (by omega)
          have hjl : j < l.length := by omega
          have q0 := HP0.out _ HW.out
          have q1 := HW.out.cell (HCELL.out j (.string l[j]) (by simp [strC, hjl]))
          have HNJ : Hid (j + 1 ≤ k) := Lib.hid hjk
          have HB2 := Lib.hid (HBAD.out j hjl hjk)
          have HD2 := Lib.hid (fun (hne : x ≠ l[j]) (q : Nat) (hq : q < l.length) (hqj : q < j + 1) => if e : q = j then (by subst e; exact hne : x ≠ l[q]) else HD.out q hq (by omega))
          generalize l[j] = y at *
          clear hj hjk hjl HD
          by_cases hxy : x.toList = y.toList
          · have z : (x.toList == y.toList) = true := by simp [hxy]
            have HE : Hid (diffB l = false) := Lib.hid (diffB_false (HB2.out (toList_inj hxy)))
            clear hxy
            go_upto_region 7 with fail
            go_quiet (fail)
            go_wp2_with fail
            go_ret
            exact ⟨by rw [HE.out]; rfl, HW.out.drewNR _⟩
          · have z : (x.toList == y.toList) = false := beq_false_of_ne hxy
            have HE := Lib.hid (HD2.out (fun e => hxy (by rw [e])))
            clear hxy
            go_upto_region 7 with fail
            go_quiet (fail)
            go_wp2_with fail
            go_roundw
            case rel => exact ⟨j + 1, HNJ.out, rfl, HE, Lib.hid (HW.out.drewNR _)⟩
            case measure => have := HNJ.out; simp [intOf, wj]; omega
        · have j1 : ¬ (j : Int) < (k : Int) := by omega
          have HY := Lib.hid (HSU.out (fun q hq hqk => HD.out q hq (by omega)))
          clear hj hjk HD
          go_wp2_with fail
          go_roundw
          case rel => exact ⟨k + 1, HNX.out, rfl, HY, HW⟩
          case measure => have := HNX.out; simp [intOf, w64]; omega
    · have hk2 : k = l.length := by omega
      subst hk2
      have HRES : Hid (diffB l = true) := Lib.hid (diffB_true (by have := HN.out; rwa [List.take_length] at this))
      clear hlt hk
      go_wp2_with fail
      go_ret
      exact ⟨by rw [HRES.out]; rfl, HC.out⟩
end Go.Proofs.YtiecgbmeobpomaaDoor
namespace Go.Proofs.YtiecgbmeobpomaaDoor
open Go.RowKit
set_option linter.unusedVariables false
set_option linter.unusedSimpArgs false

/-- Nodes in a slice that is only read. -/
def NodesAt (D : Nat → Prop) (w : World) (v : Value) (ns : List Nod) : Prop :=
  ∃ rs : List NodR, rs.length = ns.length ∧ (∀ i (h : i < rs.length) (h' : i < ns.length), NodAt D w rs[i] ns[i]) ∧ SeenN D w 5 v rs.length (rs.flatMap NodR.cells)
theorem MsgAt.nodesAt {D : Nat → Prop} {w : World} {vn vp : Value} {m : Msg} (h : MsgAt D w vn vp m) : NodesAt D w vn m.nodes := h.ex
theorem NodesAt.chg {D D' S : Nat → Prop} {w w' : World} {v : Value} {ns : List Nod} (h : NodesAt D w v ns) (hc : Chg S w w') (hS : ∀ k, k < w.heap.size → S k → D k) (hD : ∀ k, k < w.heap.size → D' k → D k) : NodesAt D' w' v ns := by
  obtain ⟨rs, h1, h2, h3⟩ := h
  exact ⟨rs, h1, fun i a b => (h2 i a b).chg hc hS hD, h3.chg hc hS hD⟩
theorem NodesAt.still {D : Nat → Prop} {w w' : World} {v : Value} {ns : List Nod} (h : NodesAt D w v ns) (hc : Chg (fun _ => False) w w') : NodesAt D w' v ns := h.chg hc (fun _ _ x => x.elim) (fun _ _ x => x)
theorem NodesAt.val {D : Nat → Prop} {w : World} {v : Value} {ns : List Nod} (h : NodesAt D w v ns) : ∃ p cap, v = .slice p ns.length cap := by
  obtain ⟨rs, h1, -, h3⟩ := h
  obtain ⟨p, cap, h4, -, -⟩ := h3.val
  rw [h1] at h4
  exact ⟨p, cap, h4⟩
/-- A node's cells. -/
theorem NodesAt.at {D : Nat → Prop} {w : World} {p : Option Addr} {n cap : Nat} {ns : List Nod} (h : NodesAt D w (.slice p n cap) ns) {k : Nat} (hk : k < ns.length) :
    ∃ g off xp xc yp yc, p = some ⟨g, off, none⟩ ∧ SeenN D w 1 (.slice xp ns[k].keys.length xc) ns[k].keys.length (strC ns[k].keys) ∧ SeenN D w 1 (.slice yp ns[k].kids.length yc) ns[k].kids.length (intC ns[k].kids) ∧
      w.cell? ⟨g, off + k * 5, none⟩ = some (.int .i64 ns[k].kind) ∧ w.cell? ⟨g, off + k * 5 + 1, none⟩ = some (.int .i64 ns[k].int) ∧ w.cell? ⟨g, off + k * 5 + 2, none⟩ = some (.string ns[k].str) ∧
      w.cell? ⟨g, off + k * 5 + 3, none⟩ = some (.slice xp ns[k].keys.length xc) ∧ w.cell? ⟨g, off + k * 5 + 4, none⟩ = some (.slice yp ns[k].kids.length yc) := by
  obtain ⟨rsN, hrl, hre, hrs⟩ := h
  have hkr : k < rsN.length := by rw [hrl]; exact hk
  obtain ⟨g, off, cn', hv1, -, -, hc1⟩ := hrs.at (by omega)
  have hat := hre k hkr hk
  obtain ⟨xp, xc, hxk, -, -⟩ := hat.keys.val
  obtain ⟨yp, yc, hxd, -, -⟩ := hat.kids.val
  have hg : p = some ⟨g, off, none⟩ := by injection hv1
  have hcel : ∀ c u, (rsN[k]).cells[c]? = some u → c < 5 → w.cell? ⟨g, off + k * 5 + c, none⟩ = some u := fun c u hu hcc => by
    rw [Nat.add_assoc]
    exact hc1 (k * 5 + c) u (by rw [flat_get _ 5 NodR.len rsN k c hkr hcc]; exact hu)
  have hrc : rsN[k].cells = [.int .i64 ns[k].kind, .int .i64 ns[k].int, .string ns[k].str, .slice xp ns[k].keys.length xc, .slice yp ns[k].kids.length yc] := by
    unfold NodR.cells
    rw [hat.kind, hat.int, hat.str, hxk, hxd]
  rw [hrc] at hcel
  have e0 := hcel 0 _ rfl (by omega)
  rw [Nat.add_zero] at e0
  have hK := hat.keys
  have hD := hat.kids
  rw [hxk] at hK
  rw [hxd] at hD
  exact ⟨g, off, xp, xc, yp, yc, hg, hK, hD, e0, hcel 1 _ rfl (by omega), hcel 2 _ rfl (by omega), hcel 3 _ rfl (by omega), hcel 4 _ rfl (by omega)⟩
theorem evenK_len (l : List Int) : (evenK l).length = (l.length + 1) / 2 := evN_len l _
theorem evenK_get {l : List Int} {q : Nat} (h : 2 * q < l.length) : (evenK l)[q]? = some l[2 * q] := by
  unfold evenK evN
  rw [List.getElem?_map, List.getElem?_range (by omega)]
  simp only [Option.map_some, Option.some.injEq]
  rw [List.getD_eq_getElem?_getD, List.getElem?_eq_getElem h]
  rfl
theorem pair_succ {α : Type} {R : α → α → Prop} {l : List α} {k : Nat} (hk : k < l.length) (h : (l.take k).Pairwise R) (h2 : ∀ j (hj : j < l.length), j < k → R l[j] l[k]) : (l.take (k + 1)).Pairwise R := by
  rw [List.take_succ_eq_append_getElem hk, List.pairwise_append]
  refine ⟨h, by simp, fun a ha b hb => ?_⟩
  rw [List.mem_singleton] at hb
  subst hb
  obtain ⟨j, hj, rfl⟩ := List.getElem_of_mem ha
  rw [List.length_take] at hj
  rw [List.getElem_take]
  exact h2 j (by omega) (by omega)
open Classical in
noncomputable def entB (ns : List Nod) (kids : List Int) : Bool := @decide ((evenK kids).Pairwise (KeyNe ns)) (Classical.propDecidable _)
theorem entB_false {ns : List Nod} {kids : List Int} {p q : Nat} (hq : 2 * q < kids.length) (hp : 2 * p < kids.length) (hpq : p < q) (h : ¬ KeyNe ns kids[2 * p] kids[2 * q]) : entB ns kids = false := by
  unfold entB
  refine @decide_eq_false _ (Classical.propDecidable _) fun hx => ?_
  have h1 : p < (evenK kids).length := by rw [evenK_len]; omega
  have h2 : q < (evenK kids).length := by rw [evenK_len]; omega
  have := List.pairwise_iff_getElem.1 hx p q h1 h2 hpq
  have e1 : (evenK kids)[p] = kids[2 * p] := by have := evenK_get hp; rw [List.getElem?_eq_getElem h1] at this; simpa using this
  have e2 : (evenK kids)[q] = kids[2 * q] := by have := evenK_get hq; rw [List.getElem?_eq_getElem h2] at this; simpa using this
  rw [e1, e2] at this
  exact h this
theorem ent_succ {ns : List Nod} {kids : List Int} {q : Nat} (hq : 2 * q < kids.length) (h : ((evenK kids).take q).Pairwise (KeyNe ns)) (h2 : ∀ p (hp : 2 * p < kids.length), p < q → KeyNe ns kids[2 * p] kids[2 * q]) : ((evenK kids).take (q + 1)).Pairwise (KeyNe ns) := by
  have h1 : q < (evenK kids).length := by rw [evenK_len]; omega
  refine pair_succ h1 h fun j hj hjq => ?_
  have hj2 : 2 * j < kids.length := by omega
  have e1 : (evenK kids)[j] = kids[2 * j] := by have := evenK_get hj2; rw [List.getElem?_eq_getElem hj] at this; simpa using this
  have e2 : (evenK kids)[q] = kids[2 * q] := by have := evenK_get hq; rw [List.getElem?_eq_getElem h1] at this; simpa using this
  rw [e1, e2]
  exact h2 j hj2 hjq
set_option maxHeartbeats 6400000 in
set_option maxRecDepth 100000 in
/-- knapsackref47.entries. -/
theorem entries_any {D : Nat → Prop} (w : World) (sn : Option Addr) (nn cn : Nat) (ns : List Nod) (v : Value) (kids : List Int) (hn : NodesAt D w (.slice sn nn cn) ns) (hk : SeenN D w 1 v kids.length (intC kids))
    (hr : ∀ x ∈ kids, 0 ≤ x ∧ x < ns.length) (hl : kids.length ≤ 20000) (hN : ns.length ≤ 10000) :
    Calls Tryd.prog 63 #[.slice sn nn cn, v] w fun e w' => e = .returned (.bool (entB ns kids)) ∧ Chg (fun _ => False) w w' := by
  have hnn : nn = ns.length := by obtain ⟨_, _, e⟩ := hn.val; injection e
  subst hnn
  obtain ⟨p, cap, rfl, hc1, hc2, hxl, hp0, hp1⟩ := hk
  have hll : (kids.length : Int) ≤ 20000 := by omega
  have HP := Lib.hid hp1
  have HNA := Lib.hid hn
  have HR := Lib.hid hr
  have HNL := Lib.hid hN
  clear hc1 hc2 hxl hp0 hp1 hn hr hl hN
  go_enter Tryd.func63, Tryd.ntmps63
  go_wp2_with fail
  go_loopw [5] (fun i wr => ∃ q : Nat, 2 * q ≤ kids.length + 1 ∧ i = .int .i64 ((2 * q : Nat) : Int) ∧ Hid (((evenK kids).take q).Pairwise (KeyNe ns)) ∧ Hid (Chg (fun _ => False) w wr)) (fun i _ => kids.length + 2 - (intOf i).toNat)
  case atStart => exact ⟨0, by omega, rfl, Lib.hid (by simp), Lib.hid (Chg.refl _ _)⟩
  case round =>
    obtain ⟨q, hq, rfl, HN, HC⟩ := hrel
    by_cases hlt : 2 * q < kids.length
    · have k0 : (0 : Int) ≤ ((2 * q : Nat) : Int) := by omega
      have k1 : ((2 * q : Nat) : Int) < (kids.length : Int) := by omega
      have w64 : IntKind.i64.wrap (((2 * q : Nat) : Int) + 2) = ((2 * (q + 1) : Nat) : Int) := IntWalk.i64_in _ (by omega)
      obtain ⟨g, off, rfl, -, -, hcell⟩ := HP.out (by omega)
      have q0 := HC.out.cell (hcell (2 * q) (.int .i64 kids[2 * q]) (by simp [intC, hlt]))
      obtain ⟨a, ha⟩ := Int.eq_ofNat_of_zero_le (HR.out _ (List.getElem_mem hlt)).1
      have haN : a < ns.length := by have := (HR.out _ (List.getElem_mem hlt)).2; omega
      obtain ⟨gn, on, xp, xc, yp, yc, rfl, -, -, e0, e1, e2, e3, e4⟩ := HNA.out.at haN
      have e0 := HC.out.cell e0
      have e1 := HC.out.cell e1
      have e2 := HC.out.cell e2
      have e3 := HC.out.cell e3
      have e4 := HC.out.cell e4
      have HCELL := Lib.hid hcell
      have HNX := Lib.hid (show 2 * (q + 1) ≤ kids.length + 1 by omega)
      have HSU := Lib.hid (ent_succ hlt HN.out)
      have HBAD := Lib.hid (fun j (hj : 2 * j < kids.length) (hjk : j < q) => entB_false (ns := ns) hlt hj hjk)
      have hnA := nodN_get ns haN
      have a1 : (a : Int) < (ns.length : Int) := by omega
      have a0 : (0 : Int) ≤ (a : Int) := by omega
      rw [ha] at q0 HSU HBAD
      clear hq hlt hcell ha
      generalize ns[a] = x at *
      have HXA := Lib.hid hnA
      clear hnA haN
      generalize hqq : 2 * q = q2 at *
      have HQ2 := Lib.hid hqq
      clear hqq
      have hq20 : q2 ≤ 20000 := by omega
      go_wp2_with fail
      go_loopw [6] (fun i wx => ∃ r : Nat, 2 * r ≤ q2 ∧ i = .int .i64 ((2 * r : Nat) : Int) ∧ Hid (∀ (p : Nat) (hp : 2 * p < kids.length), p < r → KeyNe ns kids[2 * p] (a : Int)) ∧ Hid (Chg (fun _ => False) wr wx)) (fun i _ => q2 + 2 - (intOf i).toNat)
      case atStart => exact ⟨0, by omega, rfl, Lib.hid (fun _ _ h => by omega), Lib.hid (Chg.refl _ _)⟩
      case round =>
        obtain ⟨r, hr, rfl, HD, HW⟩ := hrel
        by_cases hjk : 2 * r < q2
        · have j0 : (0 : Int) ≤ ((2 * r : Nat) : Int) := by omega
          have j1 : ((2 * r : Nat) : Int) < (q2 : Int) := by omega
          have j2 : ((2 * r : Nat) : Int) < (kids.length : Int) := by omega
          have wj : IntKind.i64.wrap (((2 * r : Nat) : Int) + 2) = ((2 * (r + 1) : Nat) : Int) := IntWalk.i64_in _ (by omega)
          have hjl : 2 * r < kids.length := by omega
          have hrq : r < q := by have := HQ2.out; omega
          have q1 := HW.out.cell (HC.out.cell (HCELL.out (2 * r) (.int .i64 kids[2 * r]) (by simp [intC, hjl])))
          have q0 := HW.out.cell q0
          have e0 := HW.out.cell e0
          have e1 := HW.out.cell e1
          have e2 := HW.out.cell e2
          have e3 := HW.out.cell e3
          have e4 := HW.out.cell e4
          obtain ⟨b, hb⟩ := Int.eq_ofNat_of_zero_le (HR.out _ (List.getElem_mem hjl)).1
          have hbN : b < ns.length := by have := (HR.out _ (List.getElem_mem hjl)).2; omega
          obtain ⟨gn', on', xp', xc', yp', yc', hgn, -, -, f0, f1, f2, f3, f4⟩ := HNA.out.at hbN
          simp only [Option.some.injEq, Addr.mk.injEq, and_true] at hgn
          obtain ⟨rfl, rfl⟩ := hgn
          have f0 := HW.out.cell (HC.out.cell f0)
          have f1 := HW.out.cell (HC.out.cell f1)
          have f2 := HW.out.cell (HC.out.cell f2)
          have f3 := HW.out.cell (HC.out.cell f3)
          have f4 := HW.out.cell (HC.out.cell f4)
          have HNJ : Hid (2 * (r + 1) ≤ q2) := Lib.hid (by have := HQ2.out; omega)
          have HB2 := Lib.hid (HBAD.out r hjl hrq)
          have HD2 := Lib.hid (fun (hne : KeyNe ns kids[2 * r] (a : Int)) (p : Nat) (hp : 2 * p < kids.length) (hpr : p < r + 1) => if e : p = r then (by subst e; exact hne : KeyNe ns kids[2 * p] (a : Int)) else HD.out p hp (by omega))
          have hnB := nodN_get ns hbN
          have b1 : (b : Int) < (ns.length : Int) := by omega
          have b0 : (0 : Int) ≤ (b : Int) := by omega
          rw [hb] at q1 HB2 HD2
          have HCW := Lib.hid (HC.out.trans' HW.out)
          clear hr hjk hjl HD hrq hb
          generalize ns[b] = y at *
          have HXB := Lib.hid hnB
          clear hnB hbN
          generalize hr2 : 2 * r = r2 at *
          have HR2 := Lib.hid hr2
          clear hr2
          have HNE : Hid (KeyNe ns (b : Int) (a : Int) ↔ (b : Int) ≠ (a : Int) ∧ ¬ (x.kind < 10 ∧ x.kind = y.kind ∧ x.int = y.int ∧ x.str = y.str)) := Lib.hid (by unfold KeyNe; rw [HXA.out, HXB.out])
          go_upto_region 8 with fail
          have hca := Chg.alloc (fun _ => False) wr (.cells #[.int .i64 x.kind, .int .i64 x.int, .string x.str, .slice xp x.keys.length xc, .slice yp x.kids.length yc] 85)
          have hba := alloc_block wr (.cells #[.int .i64 x.kind, .int .i64 x.int, .string x.str, .slice xp x.keys.length xc, .slice yp x.kids.length yc] 85)
          have q0 := hca.cell q0
          have q1 := hca.cell q1
          have f0 := hca.cell f0
          have f1 := hca.cell f1
          have f2 := hca.cell f2
          have f3 := hca.cell f3
          have f4 := hca.cell f4
          have HWA := Lib.hid (HW.out.trans' hca)
          have HCWA := Lib.hid (HCW.out.trans' hca)
          clear e0 e1 e2 e3 e4 hca HW HCW
          generalize wr.alloc (.cells #[.int .i64 x.kind, .int .i64 x.int, .string x.str, .slice xp x.keys.length xc, .slice yp x.kids.length yc] 85) = wa at *
          generalize wr.heap.size = b7 at *
          go_upto_region 9 with fail
          have hcb := Chg.alloc (fun _ => False) wa (.cells #[.int .i64 y.kind, .int .i64 y.int, .string y.str, .slice xp' y.keys.length xc', .slice yp' y.kids.length yc'] 85)
          have hbb := alloc_block wa (.cells #[.int .i64 y.kind, .int .i64 y.int, .string y.str, .slice xp' y.keys.length xc', .slice yp' y.kids.length yc'] 85)
          have hba := hcb.keep hba (fun x => x)
          have q0 := hcb.cell q0
          have q1 := hcb.cell q1
          have HHW := Lib.hid (HWA.out.trans' hcb)
          have HCW := Lib.hid (HCWA.out.trans' hcb)
          clear f0 f1 f2 f3 f4 hcb HWA HCWA
          generalize wa.alloc (.cells #[.int .i64 y.kind, .int .i64 y.int, .string y.str, .slice xp' y.keys.length xc', .slice yp' y.kids.length yc'] 85) = wb at *
          generalize wa.heap.size = b8 at *
          have g0 := cell_of_block (i := 0) hba rfl
          have g1 := cell_of_block (i := 1) hba rfl
          have g2 := cell_of_block (i := 2) hba rfl
          have h0 := cell_of_block (i := 0) hbb rfl
          have h1 := cell_of_block (i := 1) hbb rfl
          have h2 := cell_of_block (i := 2) hbb rfl
          simp only [List.getElem_toArray, List.getElem_cons_zero, List.getElem_cons_succ] at g0 g1 g2 h0 h1 h2
          clear hba hbb
          by_cases hab : a = b
          · have z : ((a : Int) == (b : Int)) = true := by simp [hab]
            have HE : Hid (entB ns kids = false) := Lib.hid (HB2.out (fun h => (HNE.out.1 h).1 (by rw [hab])))
            clear hab HNE HB2 HD2
            go_quiet (fail)
            go_wp2_with fail
            go_ret
            exact ⟨by rw [HE.out]; rfl, HCW.out.drewNR _⟩
          · have z : ((a : Int) == (b : Int)) = false := by simp; omega
            have HAB : Hid ((b : Int) ≠ (a : Int)) := Lib.hid (by omega)
            clear hab
            by_cases hx : x.kind < 10
            · by_cases hxk : x.kind = y.kind
              · have z2 : (x.kind == y.kind) = true := by simp [hxk]
                by_cases hxi : x.int = y.int
                · have z3 : (x.int == y.int) = true := by simp [hxi]
                  by_cases hxs : x.str.toList = y.str.toList
                  · have z4 : (x.str.toList == y.str.toList) = true := by simp [hxs]
                    have HE : Hid (entB ns kids = false) := Lib.hid (HB2.out (fun h => (HNE.out.1 h).2 ⟨hx, hxk, hxi, toList_inj hxs⟩))
                    clear hxk hxi hxs HNE HB2 HD2
                    go_quiet (fail)
                    go_wp2_with fail
                    go_ret
                    exact ⟨by rw [HE.out]; rfl, HCW.out.drewNR _⟩
                  · have z4 : (x.str.toList == y.str.toList) = false := beq_false_of_ne hxs
                    have HE := Lib.hid (HD2.out (HNE.out.2 ⟨HAB.out, fun h => hxs (by rw [h.2.2.2])⟩))
                    clear hxk hxi hxs HNE HB2 HD2
                    go_quiet (fail)
                    go_wp2_with fail
                    go_roundw
                    case rel => exact ⟨r + 1, HNJ.out, rfl, HE, Lib.hid (HHW.out.drewNR _)⟩
                    case measure => have := HNJ.out; have := HR2.out; simp [intOf, wj]; omega
                · have z3 : (x.int == y.int) = false := beq_false_of_ne hxi
                  have HE := Lib.hid (HD2.out (HNE.out.2 ⟨HAB.out, fun h => hxi h.2.2.1⟩))
                  clear hxk hxi HNE HB2 HD2
                  go_quiet (fail)
                  go_wp2_with fail
                  go_roundw
                  case rel => exact ⟨r + 1, HNJ.out, rfl, HE, Lib.hid (HHW.out.drewNR _)⟩
                  case measure => have := HNJ.out; have := HR2.out; simp [intOf, wj]; omega
              · have z2 : (x.kind == y.kind) = false := beq_false_of_ne hxk
                have HE := Lib.hid (HD2.out (HNE.out.2 ⟨HAB.out, fun h => hxk h.2.1⟩))
                clear hxk HNE HB2 HD2
                go_quiet (fail)
                go_wp2_with fail
                go_roundw
                case rel => exact ⟨r + 1, HNJ.out, rfl, HE, Lib.hid (HHW.out.drewNR _)⟩
                case measure => have := HNJ.out; have := HR2.out; simp [intOf, wj]; omega
            · have HE := Lib.hid (HD2.out (HNE.out.2 ⟨HAB.out, fun h => hx h.1⟩))
              clear HNE HB2 HD2
              go_quiet (fail)
              go_wp2_with fail
              go_roundw
              case rel => exact ⟨r + 1, HNJ.out, rfl, HE, Lib.hid (HHW.out.drewNR _)⟩
              case measure => have := HNJ.out; have := HR2.out; simp [intOf, wj]; omega
        · have j1 : ¬ ((2 * r : Nat) : Int) < (q2 : Int) := by omega
          have HY := Lib.hid (HSU.out (fun p hp hpq => HD.out p hp (by have := HQ2.out; omega)))
          have HCW := Lib.hid (HC.out.trans' HW.out)
          clear hr hjk HD
          go_wp2_with fail
          go_roundw
          case rel => exact ⟨q + 1, HNX.out, rfl, HY, HCW⟩
          case measure => have := HNX.out; have := HQ2.out; simp [intOf, w64]; omega
    · have i1 : ¬ ((2 * q : Nat) : Int) < (kids.length : Int) := by omega
      have HE : Hid (entB ns kids = true) := Lib.hid (by
        have := HN.out
        rw [List.take_of_length_le (by rw [evenK_len]; omega)] at this
        exact @decide_eq_true _ (Classical.propDecidable _) this)
      clear hq hlt
      go_wp2_with fail
      go_ret
      exact ⟨by rw [HE.out]; rfl, HC.out⟩
end Go.Proofs.YtiecgbmeobpomaaDoor
namespace Go.Proofs.YtiecgbmeobpomaaDoor
open Go.RowKit
set_option linter.unusedVariables false
set_option linter.unusedSimpArgs false

structure InS (ns : List Nod) (s : List Int) : Prop where
  nodup : s.Nodup
  rng : ∀ x ∈ s, 0 ≤ x ∧ x < ns.length
theorem nodup_len : ∀ (n : Nat) (s : List Int), s.Nodup → (∀ x ∈ s, 0 ≤ x ∧ x < n) → s.length ≤ n
  | 0, s, _, h => by
    cases s with
    | nil => exact Nat.le_refl _
    | cons x s => have := h x (List.mem_cons_self ..); omega
  | n + 1, s, hn, h => by
    have h1 := nodup_len n (s.erase (n : Int)) (hn.erase _) (fun x hx => by
      have h2 := (hn.mem_erase_iff).1 hx
      have h3 := h x h2.2
      have h4 := h2.1
      omega)
    rw [List.length_erase] at h1
    split at h1 <;> omega
theorem InS.len {ns : List Nod} {s : List Int} (h : InS ns s) : s.length ≤ ns.length := nodup_len ns.length s h.nodup h.rng
theorem InS.full {ns : List Nod} {s : List Int} (h : InS ns s) (hl : ns.length ≤ s.length) {i : Int} (h0 : 0 ≤ i) (h1 : i < ns.length) : i ∈ s := by
  apply Classical.byContradiction
  intro hx
  have h2 : InS ns (s ++ [i]) := ⟨by
    rw [List.nodup_append]
    refine ⟨h.nodup, by simp, fun a ha b hb => ?_⟩
    rw [List.mem_singleton] at hb
    subst hb
    exact fun e => hx (e ▸ ha), fun x hx => by
    rcases List.mem_append.1 hx with y | y
    · exact h.rng x y
    · rw [List.mem_singleton] at y; omega⟩
  have := h2.len
  rw [List.length_append] at this
  simp at this
  omega
theorem InS.snoc {ns : List Nod} {s : List Int} (h : InS ns s) {i : Int} (h0 : 0 ≤ i) (h1 : i < ns.length) (hx : ¬ i ∈ s) : InS ns (s ++ [i]) :=
  ⟨by
    rw [List.nodup_append]
    refine ⟨h.nodup, by simp, fun a ha b hb => ?_⟩
    rw [List.mem_singleton] at hb
    subst hb
    exact fun e => hx (e ▸ ha), fun x hx => by
    rcases List.mem_append.1 hx with y | y
    · exact h.rng x y
    · rw [List.mem_singleton] at y; omega⟩
theorem ordM_in {ns : List Nod} (f : Nat) : ∀ (i : Int) (s : List Int), InS ns s → InS ns (ordM ns f i s).1 := by
  have kids : ∀ v : Int → List Int → List Int × Bool, (∀ i s, InS ns s → InS ns (v i s).1) → ∀ ks s, InS ns s → InS ns (ordKids v ks s).1 := by
    intro v hv ks
    induction ks with
    | nil => exact fun s h => h
    | cons k ks ih =>
      intro s h
      unfold ordKids
      split
      · exact ih _ (hv k s h)
      · exact hv k s h
  have step : ∀ v : Int → List Int → List Int × Bool, (∀ i s, InS ns s → InS ns (v i s).1) → ∀ i s, InS ns s → InS ns (ordSt ns v i s).1 := by
    intro v hv i s h
    unfold ordSt
    split
    · exact h
    · split
      · exact h
      · rename_i h0 h1
        exact kids v hv _ _ (h.snoc (by omega) (by omega) h1)
  induction f with
  | zero => exact step _ (fun _ s h => h)
  | succ f ih => exact step _ ih
theorem ordM_step {ns : List Nod} (f : Nat) (i : Int) (s : List Int) : ordM ns (f + 1) i s = ordSt ns (ordM ns f) i s := rfl
theorem ordM_bad {ns : List Nod} (f : Nat) {i : Int} (s : List Int) (h : i < 0 ∨ (ns.length : Int) ≤ i) : ordM ns f i s = (s, false) := by
  cases f <;> (show ordSt _ _ _ _ = _; unfold ordSt; rw [if_pos h])
theorem ordM_old {ns : List Nod} (f : Nat) {i : Int} {s : List Int} (h : ¬ (i < 0 ∨ (ns.length : Int) ≤ i)) (hs : i ∈ s) : ordM ns f i s = (s, decide (10 ≤ (nodN ns i).kind)) := by
  cases f <;> (show ordSt _ _ _ _ = _; unfold ordSt; rw [if_neg h, if_pos hs])
/-- What order leaves. -/
def OrdP (W w' : World) (v : Value) (r : List Int × Bool) (e : Ending) : Prop :=
  ∃ a n c, e = .returned (.tuple #[.slice a n c, .bool r.2]) ∧ RowAt w' 3 1 (.slice a n c) r.1.length (intC r.1) ∧ Chg (fun k => v.ownBlock = some k) W w' ∧ ∀ k, (Value.slice a n c).ownBlock = some k → v.ownBlock = some k ∨ W.heap.size ≤ k
set_option maxHeartbeats 1600000 in
set_option maxRecDepth 100000 in
theorem order_bad (sn : Option Addr) (nn cn : Nat) (ns : List Nod) (hnn : nn = ns.length) (i : Int) (s : List Int) (v : Value) (W : World) (hr : RowAt W 3 1 v s.length (intC s)) (hb : i < 0 ∨ (ns.length : Int) ≤ i) :
    Calls Tryd.prog 62 #[.slice sn nn cn, .int .i64 i, v] W fun e w' => OrdP W w' v (s, false) e := by
  obtain ⟨a, c, rfl, -, -⟩ := hr.slice
  have HR := Lib.hid hr
  clear hr
  subst hnn
  by_cases h0 : i < 0
  · clear hb
    go_enter Tryd.func62, Tryd.ntmps62
    go_wp2_with fail
    go_ret2
    exact ⟨a, _, c, rfl, HR.out, Chg.refl _ _, fun k hk => .inl hk⟩
  · have h1 : (ns.length : Int) ≤ i := by omega
    clear hb
    go_enter Tryd.func62, Tryd.ntmps62
    go_wp2_with fail
    go_ret2
    exact ⟨a, _, c, rfl, HR.out, Chg.refl _ _, fun k hk => .inl hk⟩
set_option maxHeartbeats 3200000 in
set_option maxRecDepth 100000 in
theorem order_old {D : Nat → Prop} (w : World) (sn : Option Addr) (nn cn : Nat) (ns : List Nod) (hn : NodesAt D w (.slice sn nn cn) ns) (hN : ns.length ≤ 10000) (i : Nat) (hi : i < ns.length) (s : List Int) (hs : (i : Int) ∈ s) (hl : s.length ≤ 10000) (v : Value) (W : World) (hW : Chg (fun _ => False) w W) (hr : RowAt W 3 1 v s.length (intC s)) :
    Calls Tryd.prog 62 #[.slice sn nn cn, .int .i64 (i : Int), v] W fun e w' => OrdP W w' v (s, decide (10 ≤ (nodN ns i).kind)) e := by
  obtain ⟨a, c, rfl, -, -⟩ := hr.slice
  obtain ⟨g, off, c', hv, -, -⟩ := hr.addr (List.length_pos_of_mem hs)
  simp only [Value.slice.injEq] at hv
  obtain ⟨rfl, _, rfl⟩ := hv
  have hnn : nn = ns.length := by obtain ⟨_, _, e⟩ := hn.val; injection e
  subst hnn
  obtain ⟨gn, on, xp, xc, yp, yc, rfl, -, -, e0, -⟩ := hn.at hi
  have e0 := hW.cell e0
  rw [nodN_get ns hi]
  have i0 : ¬ (i : Int) < 0 := by omega
  have i1 : (i : Int) < (ns.length : Int) := by omega
  have i2 : ¬ (ns.length : Int) ≤ (i : Int) := by omega
  have i3 : (0 : Int) ≤ (i : Int) := by omega
  have HS := Lib.hid hs
  have HR := Lib.hid hr
  have hll : (s.length : Int) ≤ 10000 := by omega
  clear hn hN hW hs hl hr
  generalize ns[i] = x at *
  clear hi
  go_enter Tryd.func62, Tryd.ntmps62
  go_wp2_with fail
  go_loopw [8] (fun j wr => ∃ k : Nat, k ≤ s.length ∧ j = .int .i64 k ∧ Hid (¬ (i : Int) ∈ s.take k) ∧ Hid (wr = W)) (fun j _ => s.length - (intOf j).toNat)
  case atStart => exact ⟨0, Nat.zero_le _, rfl, Lib.hid (by simp), Lib.hid rfl⟩
  case round =>
    obtain ⟨k, hk, rfl, HM, HW⟩ := hrel
    have hw := HW.out
    clear HW
    subst hw
    by_cases hlt : k < s.length
    · have k0 : (0 : Int) ≤ (k : Int) := by omega
      have k1 : (k : Int) < (s.length : Int) := by omega
      have w64 : IntKind.i64.wrap ((k : Int) + 1) = ((k + 1 : Nat) : Int) := IntWalk.i64_in _ (by omega)
      have q0 := HR.out.cellAt k (.int .i64 s[k]) (by simp [intC, hlt])
      have HNX : Hid (k + 1 ≤ s.length) := Lib.hid hlt
      have HM2 := Lib.hid (fun (hne : ¬ s[k] = (i : Int)) => (show ¬ (i : Int) ∈ s.take (k + 1) by
        rw [List.take_succ_eq_append_getElem hlt, List.mem_append, List.mem_singleton]
        exact fun h => h.elim HM.out (fun e => hne e.symm)))
      generalize s[k] = y at *
      clear hk hlt HM
      by_cases hy : y = (i : Int)
      · subst hy
        have z : ((i : Int) == (i : Int)) = true := by simp
        clear HM2
        by_cases h10 : 10 ≤ x.kind
        · go_upto_region 7 with fail
          go_quiet (fail)
          go_wp2_with fail
          go_ret2
          exact ⟨_, _, _, by simp [h10], HR.out.drewN _, Chg.drewN _ _ _, fun k hk => .inl hk⟩
        · go_upto_region 7 with fail
          go_quiet (fail)
          go_wp2_with fail
          go_ret2
          exact ⟨_, _, _, by simp [h10], HR.out.drewN _, Chg.drewN _ _ _, fun k hk => .inl hk⟩
      · have z : (y == (i : Int)) = false := beq_false_of_ne hy
        have HY := Lib.hid (HM2.out hy)
        clear hy HM2
        go_wp2_with fail
        go_roundw
        case rel => exact ⟨k + 1, HNX.out, rfl, HY, Lib.hid (by first | rfl | trivial)⟩
        case measure => have := HNX.out; simp [intOf, w64]; omega
    · exact (HM.out (by rw [List.take_of_length_le (by omega)]; exact HS.out)).elim
set_option maxHeartbeats 3200000 in
set_option maxRecDepth 100000 in
theorem order_new {D : Nat → Prop} (w : World) (sn : Option Addr) (nn cn : Nat) (ns : List Nod) (hn : NodesAt D w (.slice sn nn cn) ns) (hN : ns.length ≤ 10000) (hkd : ∀ n ∈ ns, n.kids.length ≤ 1000000000) (f : Nat) (i : Nat) (hi : i < ns.length) (s : List Int) (hs : ¬ (i : Int) ∈ s) (hI : InS ns s) (v : Value) (W : World) (hW : Chg (fun _ => False) w W) (hr : RowAt W 3 1 v s.length (intC s)) (hv0 : ∀ k, v.ownBlock = some k → w.heap.size ≤ k)
    (ih : ∀ (i : Int) (s' : List Int) (v : Value) (W : World), Chg (fun _ => False) w W → RowAt W 3 1 v s'.length (intC s') → (∀ k, v.ownBlock = some k → w.heap.size ≤ k) → InS ns s' → s.length < s'.length →
      Calls Tryd.prog 62 #[.slice sn nn cn, .int .i64 i, v] W fun e w' => OrdP W w' v (ordM ns f i s') e) :
    Calls Tryd.prog 62 #[.slice sn nn cn, .int .i64 (i : Int), v] W fun e w' => OrdP W w' v (ordM ns (f + 1) (i : Int) s) e := by
  have hR : ordM ns (f + 1) (i : Int) s = ordKids (ordM ns f) (nodN ns i).kids (s ++ [(i : Int)]) := by
    rw [ordM_step]; unfold ordSt; rw [if_neg (by omega), if_neg hs]
  rw [hR]
  clear hR
  obtain ⟨a, c, rfl, -, -⟩ := hr.slice
  have hnn : nn = ns.length := by obtain ⟨_, _, e⟩ := hn.val; injection e
  subst hnn
  have hsl := hI.len
  obtain ⟨gn, on, xp, xc, yp, yc, rfl, -, hkids, e0, -, -, -, e4⟩ := hn.at hi
  rw [nodN_get ns hi]
  have hkl := hkd _ (List.getElem_mem hi)
  have i0 : ¬ (i : Int) < 0 := by omega
  have i1 : (i : Int) < (ns.length : Int) := by omega
  have i2 : ¬ (ns.length : Int) ≤ (i : Int) := by omega
  have i3 : (0 : Int) ≤ (i : Int) := by omega
  have hll : (s.length : Int) ≤ 10000 := by omega
  have HS := Lib.hid hs
  have HR := Lib.hid hr
  have HI := Lib.hid hI
  have HI2 := Lib.hid (hI.snoc (i := (i : Int)) (by omega) (by omega) hs)
  have HV0 := Lib.hid hv0
  have HE4 := Lib.hid e4
  have HKD := Lib.hid hkids
  have HW0 := Lib.hid hW
  have HIH := Lib.hid ih
  have hkl2 : ((ns[i]).kids.length : Int) ≤ 1000000000 := by omega
  clear hn hN hkd hs hI hr hv0 ih hkids e0 e4 hW hsl hkl
  generalize ns[i] = x at *
  clear hi
  obtain ⟨s1, hs1⟩ : ∃ t, t = s ++ [(i : Int)] := ⟨_, rfl⟩
  rw [← hs1] at HI2 ⊢
  have HS1 := Lib.hid hs1
  clear hs1
  generalize hRes : ordKids (ordM ns f) x.kids s1 = Res at *
  have HRES := Lib.hid hRes
  clear hRes
  go_enter Tryd.func62, Tryd.ntmps62
  go_upto_block 0 with fail
  go_cut [] from 21 to 39 (fun wx => W = wx)
  case first =>
    go_wp2_with fail
    go_loopw [8] (fun j wr => ∃ k : Nat, k ≤ s.length ∧ j = .int .i64 k ∧ Hid (wr = W)) (fun j _ => s.length - (intOf j).toNat)
    case atStart => exact ⟨0, Nat.zero_le _, rfl, Lib.hid rfl⟩
    case round =>
      obtain ⟨k, hk, rfl, HW⟩ := hrel
      have hw := HW.out
      clear HW
      subst hw
      by_cases hlt : k < s.length
      · have k0 : (0 : Int) ≤ (k : Int) := by omega
        have k1 : (k : Int) < (s.length : Int) := by omega
        have w64 : IntKind.i64.wrap ((k : Int) + 1) = ((k + 1 : Nat) : Int) := IntWalk.i64_in _ (by omega)
        obtain ⟨g, off, c', hv, -, -⟩ := HR.out.addr (by omega)
        simp only [Value.slice.injEq] at hv
        obtain ⟨rfl, _, rfl⟩ := hv
        have q0 := HR.out.cellAt k (.int .i64 s[k]) (by simp [intC, hlt])
        have HNX : Hid (k + 1 ≤ s.length) := Lib.hid hlt
        have z : (s[k] == (i : Int)) = false := beq_false_of_ne (fun e => HS.out (by rw [← e]; exact List.getElem_mem hlt))
        generalize s[k] = y at *
        clear hk hlt
        go_wp2_with fail
        go_roundw
        case rel => exact ⟨k + 1, HNX.out, rfl, Lib.hid (by first | rfl | trivial)⟩
        case measure => have := HNX.out; simp [intOf, w64]; omega
      · have k1 : ¬ (k : Int) < (s.length : Int) := by omega
        clear hk hlt
        go_wp2_with fail
        go_meet
        first | rfl | trivial
  case rest =>
    subst hcut
    go_upto_region 9 with (at_builtin; refine wpList_outR rfl (.tmp 40) (.tmp 42) rfl _ s rfl (HR.out.alloc _) _ [(i : Int)] rfl (RowAt.lit [.int .i64 (i : Int)] rfl (by simp [maxLen])) (⟨by simp; omega⟩) ?_; intro a1 n1 c1 w1 hrow1 hchg1 hold1)
    have hc01 : Chg (fun k => (Value.slice a s.length c).ownBlock = some k) W w1 := (Chg.alloc (fun _ => False) W _).trans hchg1 (fun _ _ x => x.elim) (fun _ _ x => x)
    have HC01 := Lib.hid hc01
    have HROW1 := Lib.hid hrow1
    have HOLD1 := Lib.hid (show ∀ k, (Value.slice a1 n1 c1).ownBlock = some k → (Value.slice a s.length c).ownBlock = some k ∨ W.heap.size ≤ k from fun k hk => (hold1 k hk).imp id (fun y => by rw [World.size_alloc] at y; omega))
    have HCW1 : Hid (Chg (fun _ => False) w w1) := Lib.hid (HW0.out.trans hc01 (fun _ _ x => x.elim) (fun k hk e => by have := HV0.out k e; omega))
    clear hc01 hrow1 hold1 hchg1
    have HV1 : Hid (∀ k, (Value.slice a1 n1 c1).ownBlock = some k → w.heap.size ≤ k) := Lib.hid (fun k hk => (HOLD1.out k hk).elim (HV0.out k) (fun y => Nat.le_trans HW0.out.size y))
    clear HR HS HI HW0 HV0
    have HSL : Hid (s.length < s1.length) := Lib.hid (by rw [HS1.out]; simp)
    rw [← HS1.out] at HROW1
    obtain ⟨_, _, hv, -, -⟩ := HROW1.out.slice
    have hn1 : n1 = s1.length := by
      simp only [Value.slice.injEq] at hv
      exact hv.2.1
    clear hv
    subst hn1
    clear HS1
    go_wp2_with fail
    go_loopw [2, 9] (fun v2 j wr => ∃ (k : Nat) (a2 : Option Addr) (c2 : Nat) (s2 : List Int), k ≤ x.kids.length ∧ v2 = .slice a2 s2.length c2 ∧ j = .int .i64 k ∧ Hid (ordKids (ordM ns f) (x.kids.drop k) s2 = Res) ∧ Hid (RowAt wr 3 1 (.slice a2 s2.length c2) s2.length (intC s2)) ∧ Hid (InS ns s2) ∧ Hid (s.length < s2.length) ∧
      Hid (∀ k, (Value.slice a2 s2.length c2).ownBlock = some k → (Value.slice a s.length c).ownBlock = some k ∨ W.heap.size ≤ k) ∧ Hid (∀ k, (Value.slice a2 s2.length c2).ownBlock = some k → w.heap.size ≤ k) ∧ Hid (Chg (fun k => (Value.slice a s.length c).ownBlock = some k) W wr) ∧ Hid (Chg (fun _ => False) w wr)) (fun _ j _ => x.kids.length - (intOf j).toNat)
    case atStart => exact ⟨0, a1, c1, s1, Nat.zero_le _, rfl, rfl, by simpa using HRES, HROW1, HI2, HSL, HOLD1, HV1, HC01, HCW1⟩
    case round =>
      clear HRES HROW1 HI2 HSL HOLD1 HV1 HC01 HCW1
      obtain ⟨k, a2, c2, s2, hk, rfl, rfl, HRES, HROW, HI2, HSL, HOLD, HV, HC, HCW⟩ := hrel
      have q4 := HCW.out.cell HE4.out
      by_cases hlt : k < x.kids.length
      · have k0 : (0 : Int) ≤ (k : Int) := by omega
        have k1 : (k : Int) < (x.kids.length : Int) := by omega
        have w64 : IntKind.i64.wrap ((k : Int) + 1) = ((k + 1 : Nat) : Int) := IntWalk.i64_in _ (by omega)
        obtain ⟨gk, ko, ck, hvk, -, -, hck⟩ := HKD.out.at (by omega)
        simp only [Value.slice.injEq, true_and] at hvk
        obtain ⟨rfl, rfl⟩ := hvk
        have q0 := HCW.out.cell (hck k (.int .i64 x.kids[k]) (by simp [intC, hlt]))
        have HNX : Hid (k + 1 ≤ x.kids.length) := Lib.hid hlt
        have hdrop : x.kids.drop k = x.kids[k] :: x.kids.drop (k + 1) := List.drop_eq_getElem_cons hlt
        have hres := HRES.out
        rw [hdrop, ordKids] at hres
        have HCL := Lib.hid (HIH.out x.kids[k] s2 (.slice a2 s2.length c2) wr HCW.out HROW.out HV.out HI2.out HSL.out)
        have HIN := Lib.hid (ordM_in f x.kids[k] s2 HI2.out)
        have HGR := Lib.hid ((ordM_grows (ns := ns) f x.kids[k] s2).length_le)
        generalize x.kids[k] = kid at *
        generalize ordM ns f kid s2 = R at *
        obtain ⟨s3, b3⟩ := R
        simp only at hres
        have HRS := Lib.hid hres
        clear hres hdrop hk hlt hck HRES
        go_upto_region 13 with (go_at_call 62; refine HCL.out.mono ?_; rintro _ w3 ⟨a3, n3, c3, rfl, hrow3, hc3, ho3⟩; have HROW3 := Lib.hid hrow3; have HC3 := Lib.hid hc3; have HO3 := Lib.hid ho3; clear hrow3 hc3 ho3)
        obtain ⟨_, _, hv, -, -⟩ := HROW3.out.slice
        have hn3 : n3 = s3.length := by
          simp only [Value.slice.injEq] at hv
          exact hv.2.1
        clear hv
        subst hn3
        have HOLD3 : Hid (∀ k, (Value.slice a3 s3.length c3).ownBlock = some k → (Value.slice a s.length c).ownBlock = some k ∨ W.heap.size ≤ k) := Lib.hid (fun k hk => (HO3.out k hk).elim (HOLD.out k) (fun y => .inr (Nat.le_trans HC.out.size y)))
        have HV3 : Hid (∀ k, (Value.slice a3 s3.length c3).ownBlock = some k → w.heap.size ≤ k) := Lib.hid (fun k hk => (HO3.out k hk).elim (HV.out k) (fun y => Nat.le_trans HCW.out.size y))
        have HCC3 : Hid (Chg (fun k => (Value.slice a s.length c).ownBlock = some k) W w3) := Lib.hid (HC.out.trans HC3.out (fun _ _ x => x) (fun k hk e => (HOLD.out k e).elim id (fun y => by omega)))
        have HCW3 : Hid (Chg (fun _ => False) w w3) := Lib.hid (HCW.out.trans HC3.out (fun _ _ x => x.elim) (fun k hk e => by have := HV.out k e; omega))
        clear HC3 HO3 HOLD HV HC HCW HROW HI2 q4 q0
        cases b3 with
        | true =>
          have HRS2 := HRS.out
          rw [if_pos rfl] at HRS2
          have HRS3 := Lib.hid HRS2
          clear HRS2 HRS
          go_wp2_with fail
          go_roundw
          case rel => exact ⟨k + 1, a3, c3, s3, HNX.out, rfl, rfl, HRS3, HROW3, HIN, Lib.hid (by have := HSL.out; have := HGR.out; omega), HOLD3, HV3, HCC3, HCW3⟩
          case measure => have := HNX.out; simp [intOf, w64]; omega
        | false =>
          have HRS2 := HRS.out
          rw [if_neg (by decide)] at HRS2
          subst HRS2
          clear HRS
          go_wp2_with fail
          go_ret2
          exact ⟨a3, _, c3, rfl, HROW3.out, HCC3.out, HOLD3.out⟩
      · have k1 : ¬ (k : Int) < (x.kids.length : Int) := by omega
        have hres := HRES.out
        rw [List.drop_of_length_le (show x.kids.length ≤ k by omega), ordKids] at hres
        subst hres
        clear hk hlt HRES
        go_wp2_with fail
        go_ret2
        exact ⟨a2, _, c2, rfl, HROW.out, HC.out, HOLD.out⟩
/-- knapsackref47.order. -/
theorem order_any {D : Nat → Prop} (w : World) (sn : Option Addr) (nn cn : Nat) (ns : List Nod) (hn : NodesAt D w (.slice sn nn cn) ns) (hN : ns.length ≤ 10000) (hkd : ∀ n ∈ ns, n.kids.length ≤ 1000000000) : ∀ (f : Nat) (i : Int) (s : List Int) (v : Value) (W : World), Chg (fun _ => False) w W → RowAt W 3 1 v s.length (intC s) → (∀ k, v.ownBlock = some k → w.heap.size ≤ k) → InS ns s → ns.length ≤ s.length + f →
    Calls Tryd.prog 62 #[.slice sn nn cn, .int .i64 i, v] W fun e w' => OrdP W w' v (ordM ns f i s) e := by
  have hnn : nn = ns.length := by obtain ⟨_, _, e⟩ := hn.val; injection e
  intro f
  induction f with
  | zero =>
    intro i s v W hW hr hv hI hl
    by_cases h0 : i < 0 ∨ (ns.length : Int) ≤ i
    · rw [ordM_bad 0 s h0]
      exact order_bad sn nn cn ns hnn i s v W hr h0
    · have hm : i ∈ s := hI.full (by omega) (by omega) (by omega)
      rw [ordM_old 0 h0 hm]
      obtain ⟨q, rfl⟩ := Int.eq_ofNat_of_zero_le (show 0 ≤ i by omega)
      exact order_old w sn nn cn ns hn hN q (by omega) s hm (by have := hI.len; omega) v W hW hr
  | succ f ih =>
    intro i s v W hW hr hv hI hl
    by_cases h0 : i < 0 ∨ (ns.length : Int) ≤ i
    · rw [ordM_bad _ s h0]
      exact order_bad sn nn cn ns hnn i s v W hr h0
    · obtain ⟨q, rfl⟩ := Int.eq_ofNat_of_zero_le (show 0 ≤ i by omega)
      by_cases hm : (q : Int) ∈ s
      · rw [ordM_old _ h0 hm]
        exact order_old w sn nn cn ns hn hN q (by omega) s hm (by have := hI.len; omega) v W hW hr
      · exact order_new w sn nn cn ns hn hN hkd f q (by omega) s hm hI v W hW hr hv (fun i s' v W h1 h2 h3 h4 h5 => ih i s' v W h1 h2 h3 h4 (by omega))
end Go.Proofs.YtiecgbmeobpomaaDoor
namespace Go.Proofs.YtiecgbmeobpomaaDoor
open Go.RowKit
set_option linter.unusedVariables false
set_option linter.unusedSimpArgs false

open Classical in
theorem refB_len {m : Msg} (h : m.nodes.length = 0 ∨ 10000 < m.nodes.length) : refB m = false := by
  unfold refB
  exact decide_eq_false fun x => by omega
open Classical in
theorem refB_node {m : Msg} {j : Nat} (hj : j < m.nodes.length) (h : ¬ NodeR m.nodes j) : refB m = false := by
  unfold refB
  exact decide_eq_false fun x => h (x.2.1 j hj)
open Classical in
theorem refB_cnt {m : Msg} (h : pcN m.nodes m.nodes.length ≠ m.ports.length) : refB m = false := by
  unfold refB
  exact decide_eq_false fun x => h x.2.2.1
open Classical in
theorem refB_ports {m : Msg} (h : ¬ m.ports.Nodup) : refB m = false := by
  unfold refB
  exact decide_eq_false fun x => h x.2.2.2.1
open Classical in
theorem refB_ord {m : Msg} (h : ordM m.nodes m.nodes.length 0 [] ≠ (rangeI m.nodes.length, true)) : refB m = false := by
  unfold refB
  exact decide_eq_false fun x => h x.2.2.2.2.1
open Classical in
theorem refB_ent {m : Msg} {j : Nat} (hj : j < m.nodes.length) (hk : (nodN m.nodes j).kind = 12) (h : entB m.nodes (nodN m.nodes j).kids = false) : refB m = false := by
  unfold refB
  refine decide_eq_false fun x => ?_
  have := x.2.2.2.2.2 j hj hk
  unfold entB at h
  exact (@of_decide_eq_false _ (Classical.propDecidable _) h) this
open Classical in
theorem refB_true {m : Msg} (h0 : ¬ m.nodes.length = 0) (h1 : m.nodes.length ≤ 10000) (h2 : ∀ j, j < m.nodes.length → NodeR m.nodes j) (h3 : pcN m.nodes m.nodes.length = m.ports.length) (h4 : m.ports.Nodup) (h5 : ordM m.nodes m.nodes.length 0 [] = (rangeI m.nodes.length, true))
    (h6 : ∀ j, j < m.nodes.length → (nodN m.nodes j).kind = 12 → entB m.nodes (nodN m.nodes j).kids = true) : refB m = true := by
  unfold refB
  exact decide_eq_true ⟨⟨h0, h1⟩, h2, h3, h4, h5, fun j hj hk => by
    have := h6 j hj hk
    unfold entB at this
    exact @of_decide_eq_true _ (Classical.propDecidable _) this⟩
theorem pcN_le (ns : List Nod) (k : Nat) : pcN ns k ≤ k := by
  unfold pcN
  have := List.length_filter_le (fun n : Nod => n.kind == 14) (ns.take k)
  rw [List.length_take] at this
  omega
/-- The kids of every node are in range where the walk visits all. -/
theorem ord_range {ns : List Nod} (h : ordM ns ns.length 0 [] = (rangeI ns.length, true)) : ∀ k, k < ns.length → ∀ x ∈ (nodN ns k).kids, 0 ≤ x ∧ x < ns.length := by
  have kids : ∀ (v : Int → List Int → List Int × Bool), (∀ i s s', v i s = (s', true) → (∀ q ∈ s', q ∈ s ∨ ∀ x ∈ (nodN ns q).kids, 0 ≤ x ∧ x < ns.length) ∧ 0 ≤ i ∧ i < ns.length) →
      ∀ ks s s', ordKids v ks s = (s', true) → (∀ q ∈ s', q ∈ s ∨ ∀ x ∈ (nodN ns q).kids, 0 ≤ x ∧ x < ns.length) ∧ ∀ x ∈ ks, 0 ≤ x ∧ x < ns.length := by
    intro v hv ks
    induction ks with
    | nil =>
      intro s s' h
      simp only [ordKids, Prod.mk.injEq, and_true] at h
      subst h
      exact ⟨fun q hq => .inl hq, fun x hx => by cases hx⟩
    | cons k ks ih =>
      intro s s' h
      unfold ordKids at h
      split at h
      · rename_i hk
        obtain ⟨h1, h2⟩ := hv k s (v k s).1 (Prod.ext rfl hk)
        obtain ⟨h3, h4⟩ := ih _ _ h
        refine ⟨fun q hq => (h3 q hq).elim (fun y => h1 q y) .inr, fun x hx => ?_⟩
        rcases List.mem_cons.1 hx with rfl | hx
        · exact h2
        · exact h4 x hx
      · simp at h
  have step : ∀ (v : Int → List Int → List Int × Bool), (∀ i s s', v i s = (s', true) → (∀ q ∈ s', q ∈ s ∨ ∀ x ∈ (nodN ns q).kids, 0 ≤ x ∧ x < ns.length) ∧ 0 ≤ i ∧ i < ns.length) →
      ∀ i s s', ordSt ns v i s = (s', true) → (∀ q ∈ s', q ∈ s ∨ ∀ x ∈ (nodN ns q).kids, 0 ≤ x ∧ x < ns.length) ∧ 0 ≤ i ∧ i < ns.length := by
    intro v hv i s s' h
    unfold ordSt at h
    split at h
    · simp at h
    · rename_i h0
      split at h
      · simp only [Prod.mk.injEq] at h
        obtain ⟨rfl, -⟩ := h
        exact ⟨fun q hq => .inl hq, by omega, by omega⟩
      · obtain ⟨h1, h2⟩ := kids v hv _ _ _ h
        refine ⟨fun q hq => (h1 q hq).elim (fun y => ?_) .inr, by omega, by omega⟩
        rcases List.mem_append.1 y with z | z
        · exact .inl z
        · rw [List.mem_singleton] at z
          subst z
          exact .inr h2
  have all : ∀ f i s s', ordM ns f i s = (s', true) → (∀ q ∈ s', q ∈ s ∨ ∀ x ∈ (nodN ns q).kids, 0 ≤ x ∧ x < ns.length) ∧ 0 ≤ i ∧ i < ns.length := by
    intro f
    induction f with
    | zero => exact step _ (fun _ _ _ h => by simp at h)
    | succ f ih => exact step _ ih
  intro k hk
  have := (all _ _ _ _ h).1 (k : Int) (rangeI_mem.2 ⟨by omega, by omega⟩)
  exact this.elim (fun y => by cases y) id
set_option maxHeartbeats 12800000 in
set_option maxRecDepth 100000 in
/-- knapsackref47.Valid. -/
theorem rvalid_any {D : Nat → Prop} (w : World) (pn pp : Option Addr) (nn cn np cp : Nat) (m : Msg) (hm : MsgAt D w (.slice pn nn cn) (.slice pp np cp) m) (hfit : MsgFit m) (hU : Lib.Utf8Tabs 0 1 w) :
    Calls Tryd.prog 47 #[.agg #[.slice pn nn cn, .slice pp np cp]] w fun e w' => e = .returned (.bool (refB m)) ∧ Chg (fun _ => False) w w' := by
  have hnn : nn = m.nodes.length := by obtain ⟨_, _, e⟩ := hm.nodesAt.val; injection e
  have hnp : np = m.ports.length := by obtain ⟨_, _, e, -⟩ := hm.ports; cases e; rfl
  have HNA := Lib.hid hm.nodesAt
  have HPA := Lib.hid hm.ports
  have HFIT := Lib.hid hfit
  have HUW := Lib.hid hU
  have HCA := Lib.hid (Chg.alloc (fun _ => False) w (.cells #[.slice pn nn cn, .slice pp np cp] 32))
  have HB := Lib.hid (alloc_block w (.cells #[.slice pn nn cn, .slice pp np cp] 32))
  have HNP := Lib.hid hnp
  have hpl : (np : Int) ≤ 1000000000 := by have := hfit.fewP.lt; omega
  clear hm hfit hU hnp
  generalize hns : m.nodes = ns at *
  have HNS := Lib.hid hns
  clear hns
  by_cases hlen : ns.length = 0 ∨ 10000 < ns.length
  · have HR : Hid (refB m = false) := Lib.hid (refB_len (by rw [HNS.out]; exact hlen))
    by_cases h0 : nn = 0
    · subst h0
      clear hlen hnn
      rw [HR.out]
      go_enter Tryd.func47, Tryd.ntmps47
      go_upto_region 1 with fail
      generalize w.alloc (.cells #[.slice pn 0 cn, .slice pp np cp] 32) = w1 at *
      generalize w.heap.size = b1 at *
      have y0 := cell_of_block (i := 0) HB.out rfl
      simp only [List.getElem_toArray, List.getElem_cons_zero, List.getElem_cons_succ] at y0
      go_wp2_with fail
      go_ret
      exact ⟨rfl, HCA.out⟩
    · have z : ((nn : Int) == 0) = false := beq_false_of_ne (by omega)
      have z1 : (10000 : Int) < (nn : Int) := by omega
      clear hlen hnn h0
      rw [HR.out]
      go_enter Tryd.func47, Tryd.ntmps47
      go_upto_region 1 with fail
      generalize w.alloc (.cells #[.slice pn nn cn, .slice pp np cp] 32) = w1 at *
      generalize w.heap.size = b1 at *
      have y0 := cell_of_block (i := 0) HB.out rfl
      simp only [List.getElem_toArray, List.getElem_cons_zero, List.getElem_cons_succ] at y0
      go_wp2_with fail
      go_ret
      exact ⟨rfl, HCA.out⟩
  · have z : ((nn : Int) == 0) = false := beq_false_of_ne (by omega)
    have z1 : ¬ (10000 : Int) < (nn : Int) := by omega
    have hnl : (nn : Int) ≤ 10000 := by omega
    have HNN := Lib.hid hnn
    have HLEN := Lib.hid hlen
    have hrf : ∃ b, b = refB m := ⟨_, rfl⟩
    obtain ⟨rf, hrf⟩ := hrf
    rw [← hrf]
    have HRF := Lib.hid hrf
    clear hnn hlen hrf
    go_enter Tryd.func47, Tryd.ntmps47
    go_upto_region 1 with fail
    generalize w.alloc (.cells #[.slice pn nn cn, .slice pp np cp] 32) = w1 at *
    generalize w.heap.size = b1 at *
    have y0 := cell_of_block (i := 0) HB.out rfl
    simp only [List.getElem_toArray, List.getElem_cons_zero, List.getElem_cons_succ] at y0
    go_upto_block 0 with fail
    clear z z1 y0
    go_cut [2, 4, 5, 6] from 23 to 128 (fun _ u4 _ _ wx => u4 = .int .i64 ((pcN ns nn : Nat) : Int) ∧ Hid (∀ j, j < nn → NodeR ns j) ∧ Hid (Chg (fun _ => False) w1 wx))
    case first =>
      go_wp2_with fail
      go_loopw [2, 4, 5, 6] (fun _ u4 i _ wr => ∃ k : Nat, k ≤ nn ∧ u4 = .int .i64 ((pcN ns k : Nat) : Int) ∧ i = .int .i64 k ∧ Hid (∀ j, j < k → NodeR ns j) ∧ Hid (Chg (fun _ => False) w1 wr)) (fun _ _ i _ _ => nn - (intOf i).toNat)
      case atStart => exact ⟨0, Nat.zero_le _, by simp [pcN], rfl, Lib.hid (fun j hj => by omega), Lib.hid (Chg.refl _ _)⟩
      case round =>
        obtain ⟨k, hk, rfl, rfl, HN, HC⟩ := hrel
        by_cases hlt : k < nn
        · have k0 : (0 : Int) ≤ (k : Int) := by omega
          have k1 : (k : Int) < (nn : Int) := by omega
          have w64 : IntKind.i64.wrap ((k : Int) + 1) = ((k + 1 : Nat) : Int) := IntWalk.i64_in _ (by omega)
          have hkn : k < ns.length := by rw [← HNN.out]; exact hlt
          obtain ⟨g, off, xp, xc, yp, yc, rfl, hks, hds, e0, e1, e2, e3, e4⟩ := HNA.out.at hkn
          have hcw := HCA.out.trans' HC.out
          have e0 := hcw.cell e0
          have e1 := hcw.cell e1
          have e2 := hcw.cell e2
          have e3 := hcw.cell e3
          have e4 := hcw.cell e4
          have hxf := HFIT.out.nodes ns[k] (by rw [HNS.out]; exact List.getElem_mem hkn)
          have HNX : Hid (k + 1 ≤ nn) := Lib.hid hlt
          have hpc := pcN_succ ns hkn
          have hpl := pcN_le ns k
          have HBAD : Hid (¬ NodeR ns k → rf = false) := Lib.hid (fun h => by rw [HRF.out]; exact refB_node (j := k) (by rw [HNS.out]; exact hkn) (by rw [HNS.out]; exact h))
          have hnd := nodN_get ns hkn
          have HNR : Hid (NodeR ns k ↔ formedB ns[k] = true ∧ (ns[k].kind = 14 → ns[k].int = (pcN ns k : Int))) := Lib.hid ⟨fun h => ⟨by rw [← hnd]; exact h.formed, fun h14 => by rw [← hnd]; exact h.port (by rw [hnd]; exact h14)⟩, fun h => ⟨by rw [hnd]; exact h.1, fun h14 => by rw [hnd]; exact h.2 (by rw [← hnd]; exact h14)⟩⟩
          have HNS1 : Hid (NodeR ns k → ∀ j, j < k + 1 → NodeR ns j) := Lib.hid (fun h j hj => if e : j = k then e ▸ h else HN.out j (by omega))
          have HPC1 := Lib.hid hpc
          have HXF := Lib.hid hxf
          have HKS := Lib.hid hks
          have HCW := Lib.hid hcw
          have hpk : (pcN ns k : Int) ≤ 10000 := by omega
          have hp0 : (0 : Int) ≤ (pcN ns k : Int) := by omega
          generalize ns[k] = x at *
          clear hk hlt hkn hks hds hcw hxf hpc hpl hnd HN
          generalize pcN ns k = pk at *
          go_upto_region 9 with fail
          have hca := Chg.alloc (fun _ => False) wr (.cells #[.int .i64 x.kind, .int .i64 x.int, .string x.str, .slice xp x.keys.length xc, .slice yp x.kids.length yc] 85)
          have hba := alloc_block wr (.cells #[.int .i64 x.kind, .int .i64 x.int, .string x.str, .slice xp x.keys.length xc, .slice yp x.kids.length yc] 85)
          have HWA := Lib.hid (HC.out.trans' hca)
          have HCWA := Lib.hid (HCW.out.trans' hca)
          have HBA := Lib.hid hba
          clear e0 e1 e2 e3 e4 hca hba HC HCW
          generalize wr.alloc (.cells #[.int .i64 x.kind, .int .i64 x.int, .string x.str, .slice xp x.keys.length xc, .slice yp x.kids.length yc] 85) = wa at *
          generalize wr.heap.size = b6 at *
          have l0 := cell_of_block (i := 0) HBA.out rfl
          have l1 := cell_of_block (i := 1) HBA.out rfl
          have l2 := cell_of_block (i := 2) HBA.out rfl
          have l3 := cell_of_block (i := 3) HBA.out rfl
          have l4 := cell_of_block (i := 4) HBA.out rfl
          simp only [List.getElem_toArray, List.getElem_cons_zero, List.getElem_cons_succ] at l0 l1 l2 l3 l4
          have HSI := Lib.hid (simple_any wa x xp yp xc yc (utf8_stay HUW.out HCWA.out) HXF.out)
          generalize hsb : simpleB x = sb at *
          have HSB := Lib.hid hsb
          clear hsb
          cases sb with
          | true =>
            have hk4 : ¬ x.kind = 14 := by
              have h := HSB.out
              unfold simpleB at h
              split at h
              · simp at h
              · omega
            have HY := Lib.hid (HNS1.out (HNR.out.2 ⟨simple_formed HSB.out, fun h => (hk4 h).elim⟩))
            have HPP : Hid (pcN ns (k + 1) = pk) := Lib.hid (by rw [HPC1.out, if_neg hk4]; rfl)
            clear hk4
            go_wp2_with (go_at_call 60; refine HSI.out.mono ?_; rintro _ w3 ⟨rfl, hc3⟩; have HC3 := Lib.hid (HWA.out.trans' hc3); clear hc3)
            go_roundw
            case rel => exact ⟨k + 1, HNX.out, by rw [HPP.out], rfl, HY, HC3⟩
            case measure => have := HNX.out; simp [intOf, w64]; omega
          | false =>
            have HFM := Lib.hid (formed_iff HSB.out)
            have HRN : Hid (¬ RefN x → rf = false) := Lib.hid (fun h => HBAD.out (fun y => h (HFM.out.1 (HNR.out.1 y).1)))
            have HBP : Hid (x.kind = 14 → x.int ≠ (pk : Int) → rf = false) := Lib.hid (fun h14 h => HBAD.out (fun y => h ((HNR.out.1 y).2 h14)))
            have HGD : Hid (RefN x → (x.kind = 14 → x.int = (pk : Int)) → ∀ j, j < k + 1 → NodeR ns j) := Lib.hid (fun h1 h2 => HNS1.out (HNR.out.2 ⟨HFM.out.2 h1, h2⟩))
            go_upto_region 10 with (go_at_call 60; refine HSI.out.mono ?_; rintro _ w3 ⟨rfl, hc3⟩; have HC3 := Lib.hid (HWA.out.trans' hc3); have HCW3 := Lib.hid (HCWA.out.trans' hc3); have hb3 := hc3.keep HBA.out (fun x => x); clear hc3)
            clear l0 l1 l2 l3 l4 HSI HWA HCWA HBA HSB HFM HNS1 HNR HBAD
            have l0 := cell_of_block (i := 0) hb3 rfl
            have l1 := cell_of_block (i := 1) hb3 rfl
            have l2 := cell_of_block (i := 2) hb3 rfl
            have l3 := cell_of_block (i := 3) hb3 rfl
            have l4 := cell_of_block (i := 4) hb3 rfl
            simp only [List.getElem_toArray, List.getElem_cons_zero, List.getElem_cons_succ] at l0 l1 l2 l3 l4
            clear hb3
            go_cut [49] from 35 to 49 (fun u wx => ∃ b : Bool, u = .bool b ∧ w3 = wx ∧ Hid (b = true ↔ (20000 < x.kids.length ∨ (x.kind ≠ 12 ∧ 10000 < x.kids.length))))
            case first =>
              by_cases a1 : 20000 < x.kids.length
              · have p1 : (20000 : Int) < (x.kids.length : Int) := by omega
                have HE := Lib.hid a1
                clear a1
                go_wp2_with fail
                go_meet
                exact ⟨true, rfl, rfl, Lib.hid (by have := HE.out; simp; omega)⟩
              · have p1 : ¬ (20000 : Int) < (x.kids.length : Int) := by omega
                by_cases a2 : x.kind = 12
                · have p2 : (x.kind != 12) = false := by simp [a2]
                  have HE := Lib.hid (And.intro a1 a2)
                  clear a1 a2
                  go_wp2_with fail
                  go_meet
                  exact ⟨false, rfl, rfl, Lib.hid (by have := HE.out; simp; omega)⟩
                · have p2 : (x.kind != 12) = true := by simp [a2]
                  by_cases a3 : 10000 < x.kids.length
                  · have p3 : (10000 : Int) < (x.kids.length : Int) := by omega
                    have HE := Lib.hid (And.intro a2 a3)
                    clear a1 a2 a3
                    go_wp2_with fail
                    go_meet
                    exact ⟨true, rfl, rfl, Lib.hid (by have := HE.out; simp; omega)⟩
                  · have p3 : ¬ (10000 : Int) < (x.kids.length : Int) := by omega
                    have HE := Lib.hid (And.intro a1 a3)
                    clear a1 a2 a3
                    go_wp2_with fail
                    go_meet
                    exact ⟨false, rfl, rfl, Lib.hid (by have := HE.out; simp; omega)⟩
            case rest =>
              obtain ⟨b, rfl, rfl, HQ⟩ := hcut
              cases b with
              | true =>
                obtain rfl : rf = false := HRN.out (fun r => r.many (HQ.out.1 rfl))
                go_wp2_with fail
                go_ret
                exact ⟨rfl, HCA.out.trans' HC3.out⟩
              | false =>
                have HMANY : Hid (¬ (20000 < x.kids.length ∨ (x.kind ≠ 12 ∧ 10000 < x.kids.length))) := Lib.hid (fun h => by have := HQ.out.2 h; cases this)
                clear HQ
                go_upto_region 12 with fail
                go_cut [72] from 50 to 72 (fun u wx => ∃ b : Bool, u = .bool b ∧ w3 = wx ∧ Hid (b = true ↔ (x.kind < 10 ∨ 14 < x.kind ∨ x.str.toList ≠ [] ∨ (x.kind ≠ 14 ∧ x.int ≠ 0))))
                case first =>
                  by_cases a1 : x.kind < 10
                  · have HE := Lib.hid a1
                    go_wp2_with fail
                    go_meet
                    exact ⟨true, rfl, rfl, Lib.hid (by simp [HE.out])⟩
                  · by_cases a2 : 14 < x.kind
                    · have HE := Lib.hid a2
                      go_wp2_with fail
                      go_meet
                      exact ⟨true, rfl, rfl, Lib.hid (by simp [HE.out])⟩
                    · by_cases a3 : x.str.toList = []
                      · have a3' := toList_nil a3
                        by_cases a4 : x.kind = 14
                        · have p4 : (x.kind != 14) = false := by simp [a4]
                          have HE := Lib.hid (And.intro a3 a4)
                          rw [a3'] at l2
                          clear a3 a3' a4
                          go_wp2_with fail
                          go_meet
                          exact ⟨false, rfl, rfl, Lib.hid (by simp [HE.out.1, HE.out.2])⟩
                        · have p4 : (x.kind != 14) = true := by simp [a4]
                          by_cases a5 : x.int = 0
                          · have p5 : (x.int != 0) = false := by simp [a5]
                            have HE := Lib.hid (And.intro a1 (And.intro a2 (And.intro a3 a5)))
                            rw [a3'] at l2
                            clear a3 a3' a4 a5
                            go_wp2_with fail
                            go_meet
                            exact ⟨false, rfl, rfl, Lib.hid (by simp [HE.out.2.2.1, HE.out.2.2.2]; have := HE.out; omega)⟩
                          · have p5 : (x.int != 0) = true := by simp [a5]
                            have HE := Lib.hid (And.intro a4 a5)
                            rw [a3'] at l2
                            clear a3 a3' a4 a5
                            go_wp2_with fail
                            go_meet
                            exact ⟨true, rfl, rfl, Lib.hid (by simp [HE.out.1, HE.out.2])⟩
                      · have HE := Lib.hid a3
                        go_wp2_with fail
                        go_meet
                        exact ⟨true, rfl, rfl, Lib.hid (by simp [HE.out])⟩
                case rest =>
                  obtain ⟨b, rfl, rfl, HQ⟩ := hcut
                  cases b with
                  | true =>
                    obtain rfl : rf = false := HRN.out (fun r => r.kind (HQ.out.1 rfl))
                    go_wp2_with fail
                    go_ret
                    exact ⟨rfl, HCA.out.trans' HC3.out⟩
                  | false =>
                    have HKIND : Hid (¬ (x.kind < 10 ∨ 14 < x.kind ∨ x.str.toList ≠ [] ∨ (x.kind ≠ 14 ∧ x.int ≠ 0))) := Lib.hid (fun h => by have := HQ.out.2 h; cases this)
                    clear HQ
                    go_upto_region 14 with fail
                    have hkd := HKIND.out
                    have hmn := HMANY.out
                    have HSTR : Hid (x.str.toList = []) := Lib.hid (Classical.byContradiction fun h => hkd (.inr (.inr (.inl h))))
                    have hlk : (x.keys.length : Int) ≤ 1000000000 := by have := HXF.out.fewK.lt; omega
                    have hld : (x.kids.length : Int) ≤ 1000000000 := by have := HXF.out.fewD.lt; omega
                    by_cases h14 : x.kind = 14
                    · have HPN : Hid (pcN ns (k + 1) = pk + 1) := Lib.hid (by rw [HPC1.out, if_pos h14])
                      have HG := Lib.hid (fun (hz : x.keys.length + x.kids.length = 0) (hi : x.int = (pk : Int)) => HGD.out ⟨HMANY.out, HKIND.out, fun _ => hz, fun h => by omega, fun _ => ⟨by omega, fun h => by omega⟩⟩ (fun _ => hi))
                      have HB1 := Lib.hid (fun (hz : ¬ x.keys.length + x.kids.length = 0) => HRN.out (fun r => hz (r.port h14)))
                      have HB2 := Lib.hid (fun (hi : ¬ x.int = (pk : Int)) => HBP.out h14 hi)
                      rw [h14] at l0
                      have wp : IntKind.i64.wrap ((pk : Int) + 1) = ((pk + 1 : Nat) : Int) := IntWalk.i64_in _ (by omega)
                      have ws : IntKind.i64.wrap ((x.keys.length : Int) + (x.kids.length : Int)) = (x.keys.length : Int) + (x.kids.length : Int) := IntWalk.i64_in _ (by omega)
                      clear h14 hkd hmn HMANY HKIND HGD HRN HBP HKS
                      generalize x.keys.length = nk at *
                      generalize x.kids.length = nd at *
                      by_cases hi : x.int = (pk : Int)
                      · have z : (x.int != (pk : Int)) = false := by simp [hi]
                        have HI := Lib.hid hi
                        clear hi
                        by_cases hz : nk + nd = 0
                        · obtain rfl : nk = 0 := by omega
                          obtain rfl : nd = 0 := by omega
                          have HY := Lib.hid (HG.out hz HI.out)
                          clear hz
                          go_wp2_with fail
                          go_roundw
                          case rel => exact ⟨k + 1, HNX.out, by rw [HPN.out]; first | rfl | simp, rfl, HY, HC3⟩
                          case measure => have := HNX.out; simp [intOf, w64]; omega
                        · have z2 : (0 : Int) < (nk : Int) + (nd : Int) := by omega
                          obtain rfl : rf = false := HB1.out hz
                          clear hz
                          go_wp2_with fail
                          go_ret
                          exact ⟨rfl, HCA.out.trans' HC3.out⟩
                      · have z : (x.int != (pk : Int)) = true := by simp [hi]
                        obtain rfl : rf = false := HB2.out hi
                        clear hi
                        go_wp2_with fail
                        go_ret
                        exact ⟨rfl, HCA.out.trans' HC3.out⟩
                    · have HPN : Hid (pcN ns (k + 1) = pk) := Lib.hid (by rw [HPC1.out, if_neg h14]; rfl)
                      have hcase : x.kind = 10 ∨ x.kind = 11 ∨ x.kind = 12 ∨ x.kind = 13 := by omega
                      have HDF := Lib.hid (fun W (hc : Chg (fun _ => False) w W) => different_any W (.slice xp x.keys.length xc) x.keys (HKS.out.still hc) HXF.out.fewK)
                      clear hkd hmn
                      rcases hcase with hK | hK | hK | hK
                      · have HG := Lib.hid (fun (hz : x.keys.length = x.kids.length) (hd : x.keys.Nodup) => HGD.out ⟨HMANY.out, HKIND.out, fun h => by omega, fun h => ⟨hz, hd⟩, fun h => by omega⟩ (fun h => by omega))
                        have HB1 := Lib.hid (fun (hz : ¬ x.keys.length = x.kids.length) => HRN.out (fun r => hz (r.plain (by omega)).1))
                        have HB2 := Lib.hid (fun (hd : ¬ x.keys.Nodup) => HRN.out (fun r => hd (r.plain (by omega)).2))
                        rw [hK] at l0
                        clear hK h14 HMANY HKIND HGD HRN HBP HKS
                        generalize x.keys.length = nk at *
                        generalize x.kids.length = nd at *
                        by_cases hz : nk = nd
                        · have z2 : ((nk : Int) != (nd : Int)) = false := by simp; omega
                          by_cases hd : x.keys.Nodup
                          · have HY := Lib.hid (HG.out hz hd)
                            have hdd := diffB_true hd
                            rw [hdd] at HDF
                            clear hz hd hdd
                            go_wp2_with (go_at_call 61; refine (HDF.out _ HCW3.out).mono ?_; rintro _ w4 ⟨rfl, hc4⟩; have HC4 := Lib.hid (HC3.out.trans' hc4); clear hc4)
                            go_roundw
                            case rel => exact ⟨k + 1, HNX.out, by rw [HPN.out], rfl, HY, HC4⟩
                            case measure => have := HNX.out; simp [intOf, w64]; omega
                          · have hdd := diffB_false hd
                            rw [hdd] at HDF
                            obtain rfl : rf = false := HB2.out hd
                            clear hz hd hdd
                            go_wp2_with (go_at_call 61; refine (HDF.out _ HCW3.out).mono ?_; rintro _ w4 ⟨rfl, hc4⟩; have HC4 := Lib.hid (HC3.out.trans' hc4); clear hc4)
                            go_ret
                            exact ⟨rfl, HCA.out.trans' HC4.out⟩
                        · have z2 : ((nk : Int) != (nd : Int)) = true := by simp; omega
                          obtain rfl : rf = false := HB1.out hz
                          clear hz
                          go_wp2_with fail
                          go_ret
                          exact ⟨rfl, HCA.out.trans' HC3.out⟩
                      · have HG := Lib.hid (fun (hz : x.keys.length = 0) => HGD.out ⟨HMANY.out, HKIND.out, fun h => by omega, fun h => by omega, fun _ => ⟨hz, fun h => by omega⟩⟩ (fun h => by omega))
                        have HB1 := Lib.hid (fun (hz : ¬ x.keys.length = 0) => HRN.out (fun r => hz (r.other (by omega)).1))
                        rw [hK] at l0
                        clear hK h14 HMANY HKIND HGD HRN HBP HKS HDF
                        generalize x.keys.length = nk at *
                        generalize x.kids.length = nd at *
                        by_cases hz : nk = 0
                        · subst hz
                          have HY := Lib.hid (HG.out rfl)
                          go_wp2_with fail
                          go_roundw
                          case rel => exact ⟨k + 1, HNX.out, by rw [HPN.out], rfl, HY, HC3⟩
                          case measure => have := HNX.out; simp [intOf, w64]; omega
                        · have z2 : (0 : Int) < (nk : Int) := by omega
                          obtain rfl : rf = false := HB1.out hz
                          clear hz
                          go_wp2_with fail
                          go_ret
                          exact ⟨rfl, HCA.out.trans' HC3.out⟩
                      · have HG := Lib.hid (fun (hz : x.keys.length = 0) (ho : x.kids.length % 2 = 0) => HGD.out ⟨HMANY.out, HKIND.out, fun h => by omega, fun h => by omega, fun _ => ⟨hz, fun h => ho⟩⟩ (fun h => by omega))
                        have HB1 := Lib.hid (fun (hz : ¬ x.keys.length = 0) => HRN.out (fun r => hz (r.other (by omega)).1))
                        have HB2 := Lib.hid (fun (ho : ¬ x.kids.length % 2 = 0) => HRN.out (fun r => ho ((r.other (by omega)).2 hK)))
                        rw [hK] at l0
                        clear hK h14 HMANY HKIND HGD HRN HBP HKS HDF
                        generalize x.keys.length = nk at *
                        generalize x.kids.length = nd at *
                        have z5 : (nd : Int).tmod 2 = (nd : Int) % 2 := Int.tmod_eq_emod_of_nonneg (by omega)
                        have z6 : IntKind.i64.wrap ((nd : Int) % 2) = (nd : Int) % 2 := IntWalk.i64_in _ (by omega)
                        by_cases hz : nk = 0
                        · subst hz
                          by_cases ho : nd % 2 = 0
                          · have z4 : ((nd : Int) % 2 != 0) = false := by simp; omega
                            have HY := Lib.hid (HG.out rfl ho)
                            clear ho
                            go_wp2_with fail
                            go_roundw
                            case rel => exact ⟨k + 1, HNX.out, by rw [HPN.out], rfl, HY, HC3⟩
                            case measure => have := HNX.out; simp [intOf, w64]; omega
                          · have z4 : ((nd : Int) % 2 != 0) = true := by simp; omega
                            obtain rfl : rf = false := HB2.out ho
                            clear ho
                            go_wp2_with fail
                            go_ret
                            exact ⟨rfl, HCA.out.trans' HC3.out⟩
                        · have z2 : (0 : Int) < (nk : Int) := by omega
                          obtain rfl : rf = false := HB1.out hz
                          clear hz
                          go_wp2_with fail
                          go_ret
                          exact ⟨rfl, HCA.out.trans' HC3.out⟩
                      · have HG := Lib.hid (fun (hz : x.keys.length = x.kids.length) (hd : x.keys.Nodup) => HGD.out ⟨HMANY.out, HKIND.out, fun h => by omega, fun h => ⟨hz, hd⟩, fun h => by omega⟩ (fun h => by omega))
                        have HB1 := Lib.hid (fun (hz : ¬ x.keys.length = x.kids.length) => HRN.out (fun r => hz (r.plain (by omega)).1))
                        have HB2 := Lib.hid (fun (hd : ¬ x.keys.Nodup) => HRN.out (fun r => hd (r.plain (by omega)).2))
                        rw [hK] at l0
                        clear hK h14 HMANY HKIND HGD HRN HBP HKS
                        generalize x.keys.length = nk at *
                        generalize x.kids.length = nd at *
                        by_cases hz : nk = nd
                        · have z2 : ((nk : Int) != (nd : Int)) = false := by simp; omega
                          by_cases hd : x.keys.Nodup
                          · have HY := Lib.hid (HG.out hz hd)
                            have hdd := diffB_true hd
                            rw [hdd] at HDF
                            clear hz hd hdd
                            go_wp2_with (go_at_call 61; refine (HDF.out _ HCW3.out).mono ?_; rintro _ w4 ⟨rfl, hc4⟩; have HC4 := Lib.hid (HC3.out.trans' hc4); clear hc4)
                            go_roundw
                            case rel => exact ⟨k + 1, HNX.out, by rw [HPN.out], rfl, HY, HC4⟩
                            case measure => have := HNX.out; simp [intOf, w64]; omega
                          · have hdd := diffB_false hd
                            rw [hdd] at HDF
                            obtain rfl : rf = false := HB2.out hd
                            clear hz hd hdd
                            go_wp2_with (go_at_call 61; refine (HDF.out _ HCW3.out).mono ?_; rintro _ w4 ⟨rfl, hc4⟩; have HC4 := Lib.hid (HC3.out.trans' hc4); clear hc4)
                            go_ret
                            exact ⟨rfl, HCA.out.trans' HC4.out⟩
                        · have z2 : ((nk : Int) != (nd : Int)) = true := by simp; omega
                          obtain rfl : rf = false := HB1.out hz
                          clear hz
                          go_wp2_with fail
                          go_ret
                          exact ⟨rfl, HCA.out.trans' HC3.out⟩
        · have i1 : ¬ (k : Int) < (nn : Int) := by omega
          obtain rfl : k = nn := by omega
          clear hk hlt
          go_wp2_with fail
          go_meet
          exact ⟨rfl, HN, HC⟩
    case rest =>
      obtain ⟨rfl, HNR, HC1⟩ := hcut
      have y1 := cell_of_block (i := 1) (HC1.out.keep HB.out (fun x => x)) rfl
      simp only [List.getElem_toArray, List.getElem_cons_zero, List.getElem_cons_succ] at y1
      have HPN := Lib.hid (show pcN m.nodes m.nodes.length = pcN ns nn by rw [HNS.out, ← HNN.out])
      generalize pcN ns nn = pc at *
      by_cases hcnt : pc = np
      · have z : ((pc : Int) != (np : Int)) = false := by simp [hcnt]
        have HCNT : Hid (pcN m.nodes m.nodes.length = m.ports.length) := Lib.hid (by rw [HPN.out, hcnt, HNP.out])
        clear hcnt HPN
        go_upto_block 2 with fail
        clear y1 z
        go_cut [2, 7, 8] from 134 to 156 (fun _ _ _ wx => Hid m.ports.Nodup ∧ Hid (Chg (fun _ => False) w1 wx))
        case first =>
          go_wp2_with fail
          go_loopw [2, 7, 8] (fun _ i _ wr => ∃ k : Nat, k ≤ np ∧ i = .int .i64 k ∧ Hid (m.ports.take k).Nodup ∧ Hid (Chg (fun _ => False) w1 wr)) (fun _ i _ _ => np - (intOf i).toNat)
          case atStart => exact ⟨0, Nat.zero_le _, rfl, Lib.hid (by simp), HC1⟩
          case round =>
            clear HC1
            obtain ⟨k, hk, rfl, HN, HC⟩ := hrel
            have y1 := cell_of_block (i := 1) (HC.out.keep HB.out (fun x => x)) rfl
            simp only [List.getElem_toArray, List.getElem_cons_zero, List.getElem_cons_succ] at y1
            by_cases hlt : k < np
            · have k0 : (0 : Int) ≤ (k : Int) := by omega
              have k1 : (k : Int) < (np : Int) := by omega
              have w64 : IntKind.i64.wrap ((k : Int) + 1) = ((k + 1 : Nat) : Int) := IntWalk.i64_in _ (by omega)
              have hkp : k < m.ports.length := by rw [← HNP.out]; exact hlt
              obtain ⟨gp, op, cp', hvp, -, -, hcell⟩ := HPA.out.at (by omega)
              have hpp : pp = some ⟨gp, op, none⟩ := by injection hvp
              subst hpp
              have HP0 := Lib.hid (fun W (hc : Chg (fun _ => False) w W) => hc.cell (hcell k (.int .i64 m.ports[k]) (by simp [intC, hkp])))
              have HCELL := Lib.hid hcell
              have HNX := Lib.hid (show k + 1 ≤ np from hlt)
              have HSU := Lib.hid (nodup_take_succ hkp HN.out)
              have HBAD := Lib.hid (fun j (hj : j < m.ports.length) (hjk : j < k) => not_nodup_of hkp hj hjk)
              generalize m.ports[k] = x at *
              clear hk hlt hcell hkp hvp
              go_upto_region 28 with fail
              clear y1
              go_wp2_with fail
              go_loopw [2, 8] (fun _ i wx => ∃ j : Nat, j ≤ k ∧ i = .int .i64 j ∧ Hid (∀ (q : Nat) (hq : q < m.ports.length), q < j → x ≠ m.ports[q]) ∧ Hid (Chg (fun _ => False) w1 wx)) (fun _ i _ => k - (intOf i).toNat)
              case atStart => exact ⟨0, Nat.zero_le _, rfl, Lib.hid (fun _ _ h => by omega), HC⟩
              case round =>
                obtain ⟨j, hj, rfl, HD, HW⟩ := hrel
                have y1 := cell_of_block (i := 1) (HW.out.keep HB.out (fun x => x)) rfl
                simp only [List.getElem_toArray, List.getElem_cons_zero, List.getElem_cons_succ] at y1
                by_cases hjk : j < k
                · have j0 : (0 : Int) ≤ (j : Int) := by omega
                  have j1 : (j : Int) < (k : Int) := by omega
                  have j2 : (j : Int) < (np : Int) := by omega
                  have wj : IntKind.i64.wrap ((j : Int) + 1) = ((j + 1 : Nat) : Int) := IntWalk.i64_in _ (by omega)
                  have hjl : j < m.ports.length := by rw [← HNP.out]; omega
                  have q0 := HP0.out _ (HCA.out.trans' HW.out)
                  have q1 := (HCA.out.trans' HW.out).cell (HCELL.out j (.int .i64 m.ports[j]) (by simp [intC, hjl]))
                  have HNJ : Hid (j + 1 ≤ k) := Lib.hid hjk
                  have HB2 := Lib.hid (HBAD.out j hjl hjk)
                  have HD2 := Lib.hid (fun (hne : x ≠ m.ports[j]) (q : Nat) (hq : q < m.ports.length) (hqj : q < j + 1) => if e : q = j then (by subst e; exact hne : x ≠ m.ports[q]) else HD.out q hq (by omega))
                  generalize m.ports[j] = y at *
                  clear hj hjk hjl HD
                  by_cases hxy : x = y
                  · have z : (x == y) = true := by simp [hxy]
                    obtain rfl : rf = false := by rw [HRF.out]; exact refB_ports (HB2.out hxy)
                    clear hxy HB2 HD2
                    go_upto_region 31 with fail
                    go_quiet (fail)
                    go_wp2_with fail
                    go_ret
                    exact ⟨rfl, HCA.out.trans' (HW.out.drewNR _)⟩
                  · have z : (x == y) = false := beq_false_of_ne hxy
                    have HE := Lib.hid (HD2.out hxy)
                    clear hxy HB2 HD2
                    go_upto_region 31 with fail
                    go_quiet (fail)
                    go_wp2_with fail
                    go_roundw
                    case rel => exact ⟨j + 1, HNJ.out, rfl, HE, Lib.hid (HW.out.drewNR _)⟩
                    case measure => have := HNJ.out; simp [intOf, wj]; omega
                · have j1 : ¬ (j : Int) < (k : Int) := by omega
                  have HY := Lib.hid (HSU.out (fun q hq hqk => HD.out q hq (by omega)))
                  clear hj hjk HD
                  go_wp2_with fail
                  go_roundw
                  case rel => exact ⟨k + 1, HNX.out, rfl, HY, HW⟩
                  case measure => have := HNX.out; simp [intOf, w64]; omega
            · have i1 : ¬ (k : Int) < (np : Int) := by omega
              rw [List.take_of_length_le (show m.ports.length ≤ k by rw [← HNP.out]; omega)] at HN
              clear hk hlt
              go_wp2_with fail
              go_meet
              exact ⟨HN, HC⟩
        case rest =>
          clear HC1
          obtain ⟨HND, HC2⟩ := hcut
          have HORD := Lib.hid (order_any w pn nn cn ns HNA.out (by have := HLEN.out; omega) (fun n hn => by have := (HFIT.out.nodes n (by rw [HNS.out]; exact hn)).fewD.lt; omega) ns.length 0 [] (.slice none 0 0) wc (HCA.out.trans' HC2.out) (RowAt.nil _ _ _) (fun k hk => by cases hk) ⟨by simp, fun x hx => by cases hx⟩ (by simp))
          have HROK : Hid (∀ b s, ordM ns ns.length 0 [] = (s, b) → ¬ (b = true ∧ s = rangeI ns.length) → rf = false) := Lib.hid (fun b s h1 h2 => by
            rw [HRF.out]
            refine refB_ord ?_
            rw [HNS.out, h1]
            intro h
            simp only [Prod.mk.injEq] at h
            exact h2 ⟨h.2, h.1⟩)
          generalize hord : ordM ns ns.length 0 [] = R at *
          have HOE := Lib.hid hord
          clear hord
          obtain ⟨so, bo⟩ := R
          go_upto_region 34 with (go_at_call 62; refine HORD.out.mono ?_; rintro _ w3 ⟨a3, n3, c3, rfl, hrow3, hc3, -⟩; have HROW := Lib.hid hrow3; have HC3 := Lib.hid (show Chg (fun _ => False) w1 w3 from HC2.out.trans hc3 (fun _ _ x => x) (fun k hk e => by cases e)); clear hrow3 hc3)
          clear HORD HC2
          obtain ⟨_, _, hv, -, -⟩ := HROW.out.slice
          have hn3 : n3 = so.length := by
            simp only [Value.slice.injEq] at hv
            exact hv.2.1
          clear hv
          subst hn3
          cases bo with
          | false =>
            obtain rfl : rf = false := HROK.out _ _ rfl (fun h => by cases h.1)
            go_wp2_with fail
            go_ret
            exact ⟨rfl, HCA.out.trans' HC3.out⟩
          | true =>
            by_cases hsl : so.length = nn
            · have z : ((so.length : Int) != (nn : Int)) = false := by simp [hsl]
              have HSL := Lib.hid hsl
              have hsn : (so.length : Int) ≤ 10000 := by omega
              clear hsl
              go_upto_block 6 with fail
              clear z
              go_cut [2, 11] from 171 to 182 (fun _ _ wx => Hid (so = rangeI nn) ∧ Hid (Chg (fun _ => False) w1 wx))
              case first =>
                go_wp2_with fail
                go_loopw [2, 11] (fun _ i wr => ∃ k : Nat, k ≤ so.length ∧ i = .int .i64 k ∧ Hid (so.take k = rangeI k) ∧ Hid (wr = w3)) (fun _ i _ => so.length - (intOf i).toNat)
                case atStart => exact ⟨0, Nat.zero_le _, rfl, Lib.hid rfl, Lib.hid rfl⟩
                case round =>
                  obtain ⟨k, hk, rfl, HT, HW⟩ := hrel
                  have hw := HW.out
                  clear HW
                  subst hw
                  by_cases hlt : k < so.length
                  · have k0 : (0 : Int) ≤ (k : Int) := by omega
                    have k1 : (k : Int) < (so.length : Int) := by omega
                    have w64 : IntKind.i64.wrap ((k : Int) + 1) = ((k + 1 : Nat) : Int) := IntWalk.i64_in _ (by omega)
                    obtain ⟨gs, os, cs, hv, -, -⟩ := HROW.out.addr (by omega)
                    simp only [Value.slice.injEq] at hv
                    obtain ⟨rfl, _, rfl⟩ := hv
                    obtain ⟨y, hy⟩ : ∃ y, so[k]? = some y := ⟨_, List.getElem?_eq_getElem hlt⟩
                    have q0 := HROW.out.cellAt k (.int .i64 y) (by simp [intC, hy])
                    have HNX : Hid (k + 1 ≤ so.length) := Lib.hid hlt
                    by_cases hsk : y = (k : Int)
                    · have HT2 : Hid (so.take (k + 1) = rangeI (k + 1)) := Lib.hid (by rw [List.take_add_one, hy, HT.out, rangeI_succ, hsk]; rfl)
                      rw [hsk] at q0
                      have z : ((k : Int) != (k : Int)) = false := by simp
                      clear hk hlt hsk HT hy
                      go_wp2_with fail
                      go_roundw
                      case rel => exact ⟨k + 1, HNX.out, rfl, HT2, Lib.hid (by first | rfl | trivial)⟩
                      case measure => have := HNX.out; simp [intOf, w64]; omega
                    · obtain rfl : rf = false := HROK.out _ _ rfl (fun h => hsk (by
                        have h2 := rangeI_get (n := ns.length) (k := k) (by rw [← HNN.out, ← HSL.out]; exact hlt)
                        rw [← h.2, hy] at h2
                        simpa using h2))
                      have z : (y != (k : Int)) = true := by simp [hsk]
                      clear hk hlt hsk HT hy
                      go_wp2_with fail
                      go_ret
                      exact ⟨rfl, HCA.out.trans' HC3.out⟩
                  · have i1 : ¬ (k : Int) < (so.length : Int) := by omega
                    have HT2 : Hid (so = rangeI nn) := Lib.hid (by
                      have := HT.out
                      rw [List.take_of_length_le (by omega)] at this
                      rw [this, show k = nn by have := HSL.out; omega])
                    clear hk hlt HT
                    go_wp2_with fail
                    go_meet
                    exact ⟨HT2, HC3⟩
              case rest =>
                obtain ⟨HSO, HC4⟩ := hcut
                clear HROW HC3 HROK
                have HOK : Hid (ordM ns ns.length 0 [] = (rangeI ns.length, true)) := Lib.hid (by rw [HOE.out, HSO.out, HNN.out])
                clear HOE HSO HSL
                have HRNG := Lib.hid (ord_range HOK.out)
                go_wp2_with fail
                go_loopw [2, 12] (fun _ i wr => ∃ k : Nat, k ≤ nn ∧ i = .int .i64 k ∧ Hid (∀ j, j < k → (nodN ns j).kind = 12 → entB ns (nodN ns j).kids = true) ∧ Hid (Chg (fun _ => False) w1 wr)) (fun _ i _ => nn - (intOf i).toNat)
                case atStart => exact ⟨0, Nat.zero_le _, rfl, Lib.hid (fun j hj => by omega), HC4⟩
                case round =>
                  clear HC4
                  obtain ⟨k, hk, rfl, HE, HC⟩ := hrel
                  by_cases hlt : k < nn
                  · have k0 : (0 : Int) ≤ (k : Int) := by omega
                    have k1 : (k : Int) < (nn : Int) := by omega
                    have w64 : IntKind.i64.wrap ((k : Int) + 1) = ((k + 1 : Nat) : Int) := IntWalk.i64_in _ (by omega)
                    have hkn : k < ns.length := by rw [← HNN.out]; exact hlt
                    obtain ⟨g, off, xp, xc, yp, yc, rfl, -, hds, e0, -, -, -, e4⟩ := HNA.out.at hkn
                    have hcw := HCA.out.trans' HC.out
                    have e0 := hcw.cell e0
                    have e4 := hcw.cell e4
                    have HNX : Hid (k + 1 ≤ nn) := Lib.hid hlt
                    have hnd := nodN_get ns hkn
                    have hfm := (HNR.out k hlt).formed
                    have hrg := HRNG.out k hkn
                    rw [hnd] at hfm hrg
                    have HE2 : Hid ((ns[k].kind = 12 → entB ns ns[k].kids = true) → ∀ j, j < k + 1 → (nodN ns j).kind = 12 → entB ns (nodN ns j).kids = true) := Lib.hid (fun h j hj => if e : j = k then (by subst e; rw [hnd]; exact h) else HE.out j (by omega))
                    have HBD : Hid (ns[k].kind = 12 → entB ns ns[k].kids = false → rf = false) := Lib.hid (fun h1 h2 => by
                      rw [HRF.out]
                      refine refB_ent (j := k) (by rw [HNS.out]; exact hkn) ?_ ?_
                      · rw [HNS.out, hnd]; exact h1
                      · rw [HNS.out, hnd]; exact h2)
                    by_cases h12 : ns[k].kind = 12
                    · have HEN := Lib.hid (entries_any wr (some ⟨g, off, none⟩) nn cn ns (.slice yp ns[k].kids.length yc) ns[k].kids (HNA.out.still hcw) (hds.still hcw) hrg (formedB_map hfm h12) (by have := HLEN.out; omega))
                      rw [h12] at e0
                      have HC5 := Lib.hid (HCA.out.trans' HC.out)
                      have HE3 := Lib.hid (fun h => HE2.out (fun _ => h))
                      have HBD2 := Lib.hid (HBD.out h12)
                      generalize ns[k].kids.length = nd at *
                      clear hk hlt hds hnd hfm hrg h12 HE HE2 HBD hcw
                      generalize entB ns ns[k].kids = eb at *
                      cases eb with
                      | true =>
                        have HY := Lib.hid (HE3.out rfl)
                        clear HE3 HBD2
                        go_wp2_with (go_at_call 63; refine HEN.out.mono ?_; rintro _ w4 ⟨rfl, hc4⟩; have HC6 := Lib.hid (HC.out.trans' hc4); clear hc4)
                        go_roundw
                        case rel => exact ⟨k + 1, HNX.out, rfl, HY, HC6⟩
                        case measure => have := HNX.out; simp [intOf, w64]; omega
                      | false =>
                        obtain rfl : rf = false := HBD2.out rfl
                        clear HE3 HBD2
                        go_wp2_with (go_at_call 63; refine HEN.out.mono ?_; rintro _ w4 ⟨rfl, hc4⟩; have HC6 := Lib.hid (HC.out.trans' hc4); clear hc4)
                        go_ret
                        exact ⟨rfl, HCA.out.trans' HC6.out⟩
                    · have z : (ns[k].kind == 12) = false := beq_false_of_ne h12
                      have HY := Lib.hid (HE2.out (fun h => (h12 h).elim))
                      generalize ns[k].kind = kd at *
                      generalize ns[k].kids.length = nd at *
                      clear hk hlt hds hnd hfm hrg h12 HE HE2 HBD hcw
                      go_wp2_with fail
                      go_roundw
                      case rel => exact ⟨k + 1, HNX.out, rfl, HY, HC⟩
                      case measure => have := HNX.out; simp [intOf, w64]; omega
                  · have i1 : ¬ (k : Int) < (nn : Int) := by omega
                    obtain rfl : k = nn := by omega
                    obtain rfl : rf = true := by
                      rw [HRF.out]
                      refine refB_true (by rw [HNS.out]; have := HLEN.out; omega) (by rw [HNS.out]; have := HLEN.out; omega) (fun j hj => ?_) HCNT.out HND.out (by rw [HNS.out]; exact HOK.out) (fun j hj => ?_)
                      · rw [HNS.out]; exact HNR.out j (by rw [HNN.out, ← HNS.out]; exact hj)
                      · rw [HNS.out]; exact HE.out j (by rw [HNN.out, ← HNS.out]; exact hj)
                    clear hk hlt
                    go_wp2_with fail
                    go_ret
                    exact ⟨rfl, HCA.out.trans' HC.out⟩
            · have z : ((so.length : Int) != (nn : Int)) = true := by simp; omega
              obtain rfl : rf = false := HROK.out _ _ rfl (fun h => hsl (by rw [h.2, rangeI_length, HNN.out]))
              clear hsl
              go_wp2_with fail
              go_ret
              exact ⟨rfl, HCA.out.trans' HC3.out⟩
      · have z : ((pc : Int) != (np : Int)) = true := by simp; omega
        obtain rfl : rf = false := by rw [HRF.out]; exact refB_cnt (by rw [HPN.out, ← HNP.out]; exact hcnt)
        clear hcnt
        go_wp2_with fail
        go_ret
        exact ⟨rfl, HCA.out.trans' HC1.out⟩
end Go.Proofs.YtiecgbmeobpomaaDoor
namespace Go.Proofs.YtiecgbmeobpomaaDoor
open Go.RowKit
set_option linter.unusedVariables false
set_option linter.unusedSimpArgs false

set_option maxHeartbeats 1600000 in
set_option maxRecDepth 100000 in
/-- knapsackref48.May. -/
theorem may_any {D : Nat → Prop} (w : World) (pn pp : Option Addr) (nn cn np cp : Nat) (m : Msg) (hm : MsgAt D w (.slice pn nn cn) (.slice pp np cp) m) (hfit : MsgFit m) (hU : Lib.Utf8Tabs 0 1 w) :
    Calls Tryd.prog 24 #[.agg #[.slice pn nn cn, .slice pp np cp]] w fun e w' => e = .returned (.bool (allowedB m)) ∧ Chg (fun _ => False) w w' := by
  have hnn : nn = m.nodes.length := by obtain ⟨_, _, e⟩ := hm.nodesAt.val; injection e
  have hnp : np = m.ports.length := by obtain ⟨_, _, e, -⟩ := hm.ports; cases e; rfl
  have hca := Chg.alloc (fun _ => False) w (.cells #[.slice pn nn cn, .slice pp np cp] 32)
  have HCA := Lib.hid hca
  have HB := Lib.hid (alloc_block w (.cells #[.slice pn nn cn, .slice pp np cp] 32))
  have HV := Lib.hid (fun W (hc : Chg (fun _ => False) w W) => rvalid_any W pn pp nn cn np cp m (hm.chg hc (fun _ _ x => x.elim) (fun _ _ x => x)) hfit (utf8_stay hU hc))
  have HE := Lib.hid (refB_eq m)
  unfold allowedB
  rw [← hnn, ← hnp, ← HE.out]
  clear hm hfit hU hca hnn hnp HE
  generalize refB m = rb at *
  by_cases h1 : np = 0
  · subst h1
    rw [if_neg (fun h => h rfl)]
    by_cases h0 : nn = 0
    · subst h0
      rw [if_pos rfl]
      go_enter Tryd.func24, Tryd.ntmps24
      go_upto_region 1 with fail
      generalize w.alloc (.cells #[.slice pn 0 cn, .slice pp 0 cp] 32) = w1 at *
      generalize w.heap.size = b1 at *
      have y0 := cell_of_block (i := 0) HB.out rfl
      have y1 := cell_of_block (i := 1) HB.out rfl
      simp only [List.getElem_toArray, List.getElem_cons_zero, List.getElem_cons_succ] at y0 y1
      go_wp2_with fail
      go_ret
      exact ⟨rfl, HCA.out⟩
    · rw [if_neg h0]
      have z : ((nn : Int) == 0) = false := beq_false_of_ne (by omega)
      clear h0
      cases rb with
      | true =>
        go_enter Tryd.func24, Tryd.ntmps24
        go_upto_region 1 with fail
        generalize w.alloc (.cells #[.slice pn nn cn, .slice pp 0 cp] 32) = w1 at *
        generalize w.heap.size = b1 at *
        have y0 := cell_of_block (i := 0) HB.out rfl
        have y1 := cell_of_block (i := 1) HB.out rfl
        simp only [List.getElem_toArray, List.getElem_cons_zero, List.getElem_cons_succ] at y0 y1
        go_wp2_with (go_at_call 47; refine (HV.out _ HCA.out).mono ?_; rintro _ w3 ⟨rfl, hc3⟩; have HC3 := Lib.hid hc3; have y1 := hc3.cell y1; clear hc3)
        go_ret
        exact ⟨rfl, HCA.out.trans' HC3.out⟩
      | false =>
        go_enter Tryd.func24, Tryd.ntmps24
        go_upto_region 1 with fail
        generalize w.alloc (.cells #[.slice pn nn cn, .slice pp 0 cp] 32) = w1 at *
        generalize w.heap.size = b1 at *
        have y0 := cell_of_block (i := 0) HB.out rfl
        have y1 := cell_of_block (i := 1) HB.out rfl
        simp only [List.getElem_toArray, List.getElem_cons_zero, List.getElem_cons_succ] at y0 y1
        go_wp2_with (go_at_call 47; refine (HV.out _ HCA.out).mono ?_; rintro _ w3 ⟨rfl, hc3⟩; have HC3 := Lib.hid hc3; have y1 := hc3.cell y1; clear hc3)
        go_ret
        exact ⟨rfl, HCA.out.trans' HC3.out⟩
  · rw [if_pos h1]
    have z1 : ((np : Int) == 0) = false := beq_false_of_ne (by omega)
    clear h1
    by_cases h0 : nn = 0
    · subst h0
      cases rb with
      | true =>
        go_enter Tryd.func24, Tryd.ntmps24
        go_upto_region 1 with fail
        generalize w.alloc (.cells #[.slice pn 0 cn, .slice pp np cp] 32) = w1 at *
        generalize w.heap.size = b1 at *
        have y0 := cell_of_block (i := 0) HB.out rfl
        have y1 := cell_of_block (i := 1) HB.out rfl
        simp only [List.getElem_toArray, List.getElem_cons_zero, List.getElem_cons_succ] at y0 y1
        go_wp2_with (go_at_call 47; refine (HV.out _ HCA.out).mono ?_; rintro _ w3 ⟨rfl, hc3⟩; have HC3 := Lib.hid hc3; have y1 := hc3.cell y1; clear hc3)
        go_ret
        exact ⟨rfl, HCA.out.trans' HC3.out⟩
      | false =>
        go_enter Tryd.func24, Tryd.ntmps24
        go_upto_region 1 with fail
        generalize w.alloc (.cells #[.slice pn 0 cn, .slice pp np cp] 32) = w1 at *
        generalize w.heap.size = b1 at *
        have y0 := cell_of_block (i := 0) HB.out rfl
        have y1 := cell_of_block (i := 1) HB.out rfl
        simp only [List.getElem_toArray, List.getElem_cons_zero, List.getElem_cons_succ] at y0 y1
        go_wp2_with (go_at_call 47; refine (HV.out _ HCA.out).mono ?_; rintro _ w3 ⟨rfl, hc3⟩; have HC3 := Lib.hid hc3; have y1 := hc3.cell y1; clear hc3)
        go_ret
        exact ⟨rfl, HCA.out.trans' HC3.out⟩
    · have z : ((nn : Int) == 0) = false := beq_false_of_ne (by omega)
      clear h0
      cases rb with
      | true =>
        go_enter Tryd.func24, Tryd.ntmps24
        go_upto_region 1 with fail
        generalize w.alloc (.cells #[.slice pn nn cn, .slice pp np cp] 32) = w1 at *
        generalize w.heap.size = b1 at *
        have y0 := cell_of_block (i := 0) HB.out rfl
        have y1 := cell_of_block (i := 1) HB.out rfl
        simp only [List.getElem_toArray, List.getElem_cons_zero, List.getElem_cons_succ] at y0 y1
        go_wp2_with (go_at_call 47; refine (HV.out _ HCA.out).mono ?_; rintro _ w3 ⟨rfl, hc3⟩; have HC3 := Lib.hid hc3; have y1 := hc3.cell y1; clear hc3)
        go_ret
        exact ⟨rfl, HCA.out.trans' HC3.out⟩
      | false =>
        go_enter Tryd.func24, Tryd.ntmps24
        go_upto_region 1 with fail
        generalize w.alloc (.cells #[.slice pn nn cn, .slice pp np cp] 32) = w1 at *
        generalize w.heap.size = b1 at *
        have y0 := cell_of_block (i := 0) HB.out rfl
        have y1 := cell_of_block (i := 1) HB.out rfl
        simp only [List.getElem_toArray, List.getElem_cons_zero, List.getElem_cons_succ] at y0 y1
        go_wp2_with (go_at_call 47; refine (HV.out _ HCA.out).mono ?_; rintro _ w3 ⟨rfl, hc3⟩; have HC3 := Lib.hid hc3; have y1 := hc3.cell y1; clear hc3)
        go_ret
        exact ⟨rfl, HCA.out.trans' HC3.out⟩
end Go.Proofs.YtiecgbmeobpomaaDoor
