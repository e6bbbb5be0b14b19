/-
  The iterator of collect.refs.
-/
import Derived.Test.YthiiehanlconeaaDoorRfs
namespace Go.Proofs.YthiiehanlconeaaDoor
open Go.RowKit
attribute [local go_sem] Oper.semAt_some
set_option linter.unusedVariables false
set_option linter.unusedSimpArgs false

def propRefs (p : Prp) : List Int := refsV [p.val]
def refsL (x : Obj) : List Int := ((((([x.proto] ++ x.props.flatMap propRefs) ++ refsV x.elems) ++ (if x.kind = 5 then [] else refsV x.data)) ++ [x.env]) ++ framesM x.saved)
def refsM (x : Obj) : List Int := nz (refsL x)
structure ObjOk (x : Obj) : Prop where
  props : x.props.length ≤ 1000
  elems : x.elems.length ≤ 1000
  data : x.data.length ≤ 1000
  saved : x.saved.length ≤ 1000
  each : ∀ f ∈ x.saved, FrmOk f
theorem framesM_len {l : List Frm} (h : ∀ f ∈ l, FrmOk f) : (framesM l).length ≤ l.length * 303 := Nat.le_trans (List.length_filter_le ..) (framesRefs_len l h)
theorem propRefs_len : ∀ (l : List Prp), (l.flatMap propRefs).length ≤ l.length
  | [] => Nat.le_refl _
  | p :: l => by
    have h1 := refsV_len [p.val]
    have h2 := propRefs_len l
    rw [List.flatMap_cons, List.length_append, List.length_cons]
    unfold propRefs at *
    simp only [List.length_cons, List.length_nil] at h1
    omega
/-- An object in memory, opened. -/
structure ObjC (w : World) (g o : Nat) (x : Obj) (vp ve vd vs : Value) : Prop where
  c0 : w.cell? ⟨g, o, none⟩ = some (.int .i64 x.kind)
  c1 : w.cell? ⟨g, o + 1, none⟩ = some (.int .i64 x.proto)
  c2 : w.cell? ⟨g, o + 2, none⟩ = some vp
  c3 : w.cell? ⟨g, o + 3, none⟩ = some ve
  c4 : w.cell? ⟨g, o + 4, none⟩ = some vd
  c6 : w.cell? ⟨g, o + 6, none⟩ = some (.int .i64 x.env)
  c9 : w.cell? ⟨g, o + 9, none⟩ = some vs
  rp : RowAt w 81 5 vp x.props.length (x.props.flatMap Prp.cells)
  re : RowAt w 38 4 ve x.elems.length (x.elems.flatMap Val.cells)
  rd : RowAt w 38 4 vd x.data.length (x.data.flatMap Val.cells)
  rs : ∃ F, (frmR.row 106).own w [vs] x.saved F
theorem ObjC.still {w w' : World} {g o : Nat} {x : Obj} {vp ve vd vs : Value} (h : ObjC w g o x vp ve vd vs) (hc : Chg (fun _ => False) w w') : ObjC w' g o x vp ve vd vs := by
  obtain ⟨F, hF⟩ := h.rs
  exact ⟨hc.cell h.c0, hc.cell h.c1, hc.cell h.c2, hc.cell h.c3, hc.cell h.c4, hc.cell h.c6, hc.cell h.c9, h.rp.chg hc (fun _ _ x => x), h.re.chg hc (fun _ _ x => x), h.rd.chg hc (fun _ _ x => x), F, (frmR.row 106).chg hF hc (fun _ _ x => x)⟩
theorem objOpen {w : World} {g o : Nat} {x : Obj} {F : List Nat} (H : Here objR w g o x F) : ∃ vp ve vd vs, ObjC w g o x vp ve vd vs := by
  obtain ⟨cs, ⟨vp, ve, vd, vs, F1, F2, F3, F4, rfl, h1, h2, h3, h4, -⟩, hc⟩ := H.cell
  obtain ⟨v1, e1, r1, -⟩ := row_flat.1 h1
  obtain rfl : vp = v1 := by simpa using e1
  obtain ⟨v2, e2, r2, -⟩ := row_flat.1 h2
  obtain rfl : ve = v2 := by simpa using e2
  obtain ⟨v3, e3, r3, -⟩ := row_flat.1 h3
  obtain rfl : vd = v3 := by simpa using e3
  exact ⟨vp, ve, vd, vs, hc 0 _ rfl, hc 1 _ rfl, hc 2 _ rfl, hc 3 _ rfl, hc 4 _ rfl, hc 6 _ rfl, hc 9 _ rfl, r1, r2, r3, F4, h4⟩

set_option maxHeartbeats 800000 in
set_option maxRecDepth 100000 in
theorem refs_any (w : World) (p : Option Addr) :
    Calls Tryd.prog 23 #[.pointer p] w fun e w' => e = .returned (.func (.func 39) #[] #[.pointer (some ⟨w.heap.size, 0, none⟩)]) ∧ w' = w.alloc (.cells #[.pointer p] 64) := by
  go_enter Tryd.func23, Tryd.ntmps23
  go_wp2_with fail
  go_ret
  exact ⟨rfl, rfl⟩

set_option maxHeartbeats 6400000 in
set_option maxRecDepth 100000 in
theorem refs1_seq (nf : Nat) (w : World) (g o bt : Nat) (x : Obj) (Fx : List Nat) (H : Here objR w g o x Fx) (hb : w.heap[bt]? = some (.cells #[.pointer (some ⟨g, o, none⟩)] 64 (0, 0))) (hok : ObjOk x) :
    SeqList Fence.wide nf Tryd.prog 39 #[.pointer (some ⟨bt, 0, none⟩)] (fun h : Int => #[.int .i64 h]) (refsM x) w := by
  intro l J hJ0 hY
  refine callsIn_wide.2 ?_
  obtain ⟨vp, ve, vd, vs, HC⟩ := objOpen H
  have hbc := cell_of_block (i := 0) hb rfl
  obtain ⟨ap, cp, rfl, -⟩ := HC.rp.slice
  obtain ⟨ae, ce, rfl, -⟩ := HC.re.slice
  obtain ⟨ad, cd, rfl, -⟩ := HC.rd.slice
  obtain ⟨as_, cs_, rfl, -⟩ : ∃ a c, vs = .slice a x.saved.length c ∧ True := by
    obtain ⟨F, hF⟩ := HC.rs
    obtain ⟨xs, Fs, hop⟩ := Rep.opened hF
    obtain ⟨a, c, e, -⟩ := hop.val
    exact ⟨a, c, e, trivial⟩
  have HH := Lib.hid HC
  have HBC := Lib.hid hbc
  have HOK := Lib.hid hok
  have HJ0 := Lib.hid hJ0
  have HYY := Lib.hid hY
  have c1 := HC.c1
  have hln : (x.props.length : Int) ≤ 9223372036854775807 := by have := hok.props; omega
  clear HC H hb hok hJ0 hY
  show Calls Tryd.prog 39 #[.func (.yield l) #[] #[], .pointer (some ⟨bt, 0, none⟩)] w _
  go_enter Tryd.func39, Tryd.ntmps39
  go_upto_region 1 with fail
  have HO0 : OutI w (w.alloc (.cells #[.int .i64 x.proto] 3)) (.slice (some ⟨w.heap.size, 0, none⟩) 1 1) [x.proto] :=
    ⟨RowAt.lit [.int .i64 x.proto] rfl (by simp [maxLen]), fun k hk => by simp [Value.ownBlock] at hk; omega, Chg.alloc _ _ _⟩
  clear c1 hbc
  generalize w.alloc (.cells #[.int .i64 x.proto] 3) = W0 at *
  generalize (some ⟨w.heap.size, 0, none⟩ : Option Addr) = a0 at *
  have hbc := HO0.chg.cell HBC.out
  have c2 := HO0.chg.cell HH.out.c2
  go_wp2_with fail
  go_loopw [3, 5, 18] (fun u3 _ u18 wr => ∃ (k : Nat) (a : Option Addr) (n c : Nat), k ≤ x.props.length ∧ u18 = .int .i64 k ∧ u3 = .slice a n c ∧ OutI w wr (.slice a n c) ([x.proto] ++ (x.props.take k).flatMap propRefs)) (fun _ _ u18 _ => x.props.length - (intOf u18).toNat)
  case atStart => exact ⟨0, a0, 1, 1, by omega, rfl, rfl, HO0⟩
  case round =>
    obtain ⟨k, a, n, c, hk, rfl, rfl, HO⟩ := hrel
    clear HO0 hbc c2
    by_cases hlt : k < x.props.length
    · have h0 : (0 : Int) ≤ (k : Int) := by omega
      have h1 : (k : Int) < (x.props.length : Int) := by omega
      have hr2 := HH.out.rp.chg HO.chg (fun _ _ x => x)
      obtain ⟨gp, off, cap', hv, -, -⟩ := hr2.addr (by omega)
      cases hv
      have hcell : ∀ j u, x.props[k].cells[j]? = some u → j < 5 → wr.cell? ⟨gp, off + k * 5 + j, none⟩ = some u := fun j u hu hj => by
        rw [Nat.add_assoc]
        exact hr2.cellAt (k * 5 + j) u (by rw [flat_get _ 5 Prp.len x.props k j hlt hj]; exact hu)
      have c0 := hcell 0 _ rfl (by omega)
      have c1 := hcell 1 _ rfl (by omega)
      have c2 := hcell 2 _ rfl (by omega)
      have c3 := hcell 3 _ rfl (by omega)
      have c4 := hcell 4 _ rfl (by omega)
      rw [Nat.add_zero] at c0
      have w64 : IntKind.i64.wrap ((k : Int) + 1) = ((k + 1 : Nat) : Int) := IntWalk.i64_in _ (by omega)
      have HT : Hid ([x.proto] ++ (x.props.take (k + 1)).flatMap propRefs = ([x.proto] ++ (x.props.take k).flatMap propRefs) ++ propRefs x.props[k]) := Lib.hid (by rw [List.take_succ_eq_append_getElem hlt, List.flatMap_append]; simp)
      have HLT := Lib.hid hlt
      have HNX := Lib.hid (show k + 1 ≤ x.props.length from hlt)
      have HAC : Hid (([x.proto] ++ (x.props.take k).flatMap propRefs).length ≤ 1001) := Lib.hid (by
        have h1 := propRefs_len (x.props.take k)
        have h2 : (x.props.take k).length ≤ x.props.length := List.length_take_le' ..
        have h3 := HOK.out.props
        simp only [List.length_append, List.length_cons, List.length_nil]
        omega)
      clear hcell hr2 hk
      generalize x.props[k] = p at *
      generalize [x.proto] ++ (x.props.take k).flatMap propRefs = acc0 at *
      clear hlt
      have HV := Lib.hid (values_any _ _ [p.val] (RowAt.lit2 (W := wr) (A := .cells #[.string p.key, .int .i64 p.vkind, .int .i64 p.vint, .string p.vstr, .int .i64 p.vref] 81) (e := 38) (n := 1) (size := 4) [.int .i64 p.vkind, .int .i64 p.vint, .string p.vstr, .int .i64 p.vref] rfl (by simp [maxLen])) (Few.of 1 (Nat.le_refl _) (by omega)))
      have HN := Lib.hid (Nat.le_trans (refsV_len [p.val]) (show 1 ≤ 1 from Nat.le_refl _))
      have HFW : Hid (Few (acc0.length + (refsV [p.val]).length)) := Lib.hid ⟨by have := HAC.out; have := HN.out; omega⟩
      have HOH := Lib.hid HO
      clear HO
      go_wp2_with (first
        | (go_at_call 33; refine HV.out.mono ?_; rintro e wq ⟨vq, rfl, HQ⟩; obtain ⟨aq, cq, rfl, -⟩ := HQ.val; have HO1 := (HOH.out.still ((Chg.alloc (fun _ => False) wr _).allocR _)).still HQ.chg; clear HV)
        | (at_builtin; refine wpList_out rfl (.tmp 22) (.tmp 26) rfl _ acc0 rfl HO1 _ (refsV [p.val]) rfl HQ.row HFW.out ?_; intro a1 n1 c1 W1 HO2 hch2 hold2))
      go_roundw
      case rel => exact ⟨k + 1, a1, n1, c1, HNX.out, rfl, rfl, by rw [HT.out]; exact HO2⟩
      case measure => have := HLT.out; simp [intOf, w64]; omega
    · have hk2 : k = x.props.length := by omega
      subst hk2
      rw [List.take_length] at HO
      have HAC : Hid (([x.proto] ++ x.props.flatMap propRefs).length ≤ 1001) := Lib.hid (by
        have h1 := propRefs_len x.props
        have h3 := HOK.out.props
        simp only [List.length_append, List.length_cons, List.length_nil]
        omega)
      generalize hacc : [x.proto] ++ x.props.flatMap propRefs = acc0 at *
      have HE0 := Lib.hid hacc
      clear hacc hlt hk
      have hbc := HO.chg.cell HBC.out
      have cc := HO.chg.cell HH.out.c3
      have HV := Lib.hid (values_any wr _ x.elems (HH.out.re.chg HO.chg (fun _ _ x => x)) (⟨by have := HOK.out.elems; omega⟩ : Few _))
      have HN : Hid ((refsV x.elems).length ≤ 1000) := Lib.hid (Nat.le_trans (refsV_len _) HOK.out.elems)
      have HB : Hid ((acc0 ++ refsV x.elems).length ≤ 1001 + 1000) := Lib.hid (by rw [List.length_append]; have := HAC.out; have := HN.out; omega)
      have HFW : Hid (Few ((acc0).length + (refsV x.elems).length)) := Lib.hid ⟨by have := HB.out; rw [List.length_append] at this; omega⟩
      have HOH := Lib.hid HO
      clear HO
      go_upto_region 7 with (first
        | (go_at_call 33; refine HV.out.mono ?_; rintro e wq ⟨vq, rfl, HQ⟩; obtain ⟨aq, cq, rfl, -⟩ := HQ.val; have HO1 := HOH.out.still HQ.chg; clear HV)
        | (at_builtin; refine wpList_out rfl (.tmp 29) (.tmp 34) rfl _ (acc0) rfl HO1 _ (refsV x.elems) rfl HQ.row HFW.out ?_; intro a6 n6 c6 W6 HO6 hch2 hold2))
      have HAC' := HB
      clear HAC HB HFW HN HO1 HQ hch2 hold2 cc hbc HOH
      have HAC := HAC'
      clear HAC'
      generalize he6 : acc0 ++ refsV x.elems = acc6 at *
      have HEe6 := Lib.hid he6
      clear he6
      have HO6h := Lib.hid HO6
      have hbc := HO6.chg.cell HBC.out
      have cc0 := HO6.chg.cell HH.out.c0
      clear HO6
      go_upto_if 40 with fail
      generalize hzb : (x.kind != 5) = zb at *
      have HZB := Lib.hid hzb
      clear hzb
      go_cut [3] from 41 to 47 (fun u3 wx => ∃ a n c, u3 = .slice a n c ∧ OutI w wx (.slice a n c) (acc6 ++ (if x.kind = 5 then [] else refsV x.data)))
      case first =>
        cases zb
        · have hz' : x.kind = 5 := by simpa using HZB.out
          have HZ := Lib.hid hz'
          clear hz'
          go_wp2_with fail
          go_meet
          exact ⟨_, _, _, rfl, by rw [if_pos HZ.out, List.append_nil]; exact HO6h.out⟩
        · have hz' : ¬ x.kind = 5 := by simpa using HZB.out
          have HZ := Lib.hid hz'
          clear hz'
          have cc := HO6h.out.chg.cell HH.out.c4
          have HV := Lib.hid (values_any W6 _ x.data (HH.out.rd.chg HO6h.out.chg (fun _ _ x => x)) (⟨by have := HOK.out.data; omega⟩ : Few _))
          have HFW : Hid (Few (acc6.length + (refsV x.data).length)) := Lib.hid ⟨by have := HAC.out; have := Nat.le_trans (refsV_len _) HOK.out.data; omega⟩
          go_wp2_with (first
            | (go_at_call 33; refine HV.out.mono ?_; rintro e wq ⟨vq, rfl, HQ⟩; obtain ⟨aq, cq, rfl, -⟩ := HQ.val; have HO1 := HO6h.out.still HQ.chg; clear HV)
            | (at_builtin; refine wpList_out rfl (.tmp 41) (.tmp 46) rfl _ acc6 rfl HO1 _ (refsV x.data) rfl HQ.row HFW.out ?_; intro a8 n8 c8 W8 HO8 hch2 hold2))
          go_meet
          exact ⟨_, _, _, rfl, by rw [if_neg HZ.out]; exact HO8⟩
      case rest =>
      obtain ⟨a8, n8, c8, rfl, HO8⟩ := hcut
      clear HO6h hbc cc0
      have HB : Hid ((acc6 ++ (if x.kind = 5 then [] else refsV x.data)).length ≤ 3001) := Lib.hid (by
        have h1 := HAC.out
        have h2 := Nat.le_trans (refsV_len _) HOK.out.data
        rw [List.length_append]
        split
        · simp; omega
        · omega)
      clear HAC
      have HAC := HB
      clear HB
      generalize he8 : acc6 ++ (if x.kind = 5 then [] else refsV x.data) = acc8 at *
      have HEe8 := Lib.hid he8
      clear he8
      have hbc := HO8.chg.cell HBC.out
      have cc := HO8.chg.cell HH.out.c6
      have HO8a := Lib.hid (HO8.alloc (.cells #[.int .i64 x.env] 3))
      have HFW : Hid (Few (acc8.length + 1)) := Lib.hid ⟨by have := HAC.out; omega⟩
      have HB : Hid ((acc8 ++ [x.env]).length ≤ 3002) := Lib.hid (by rw [List.length_append]; have := HAC.out; simp only [List.length_cons, List.length_nil]; omega)
      clear HO8
      go_upto_region 10 with (first
        | (at_builtin; refine wpList_out rfl (.tmp 48) (.tmp 53) rfl _ acc8 rfl HO8a.out _ [x.env] rfl (RowAt.lit [.int .i64 x.env] rfl (by simp [maxLen])) HFW.out ?_; intro a9 n9 c9 W9 HO9 hch2 hold2))
      clear HAC hbc cc HO8a HFW hch2 hold2
      have HAC := HB
      clear HB
      generalize he9 : acc8 ++ [x.env] = acc9 at *
      have HEe9 := Lib.hid he9
      clear he9
      have hbc := HO9.chg.cell HBC.out
      have cc := HO9.chg.cell HH.out.c9
      have HV := Lib.hid (frames_any W9 _ x.saved _ ((frmR.row 106).chg HH.out.rs.choose_spec HO9.chg (fun _ _ x => x)) HOK.out.saved HOK.out.each)
      have HN : Hid ((framesM x.saved).length ≤ 303000) := Lib.hid (Nat.le_trans (framesM_len HOK.out.each) (by have := HOK.out.saved; omega))
      have HB : Hid ((acc9 ++ framesM x.saved).length ≤ 3002 + 303000) := Lib.hid (by rw [List.length_append]; have := HAC.out; have := HN.out; omega)
      have HFW : Hid (Few ((acc9).length + (framesM x.saved).length)) := Lib.hid ⟨by have := HB.out; rw [List.length_append] at this; omega⟩
      have HOH := Lib.hid HO9
      clear HO9
      go_upto_region 11 with (first
        | (go_at_call 32; refine HV.out.mono ?_; rintro e wq ⟨vq, rfl, HQ⟩; obtain ⟨aq, cq, rfl, -⟩ := HQ.val; have HO1 := HOH.out.still HQ.chg; clear HV)
        | (at_builtin; refine wpList_out rfl (.tmp 55) (.tmp 60) rfl _ (acc9) rfl HO1 _ (framesM x.saved) rfl HQ.row HFW.out ?_; intro a10 n10 c10 W10 HO10 hch2 hold2))
      have HAC' := HB
      clear HAC HB HFW HN HO1 HQ hch2 hold2 cc hbc HOH
      have HAC := HAC'
      clear HAC'
      generalize heL : acc9 ++ framesM x.saved = L at *
      have HEeL := Lib.hid heL
      clear heL
      have HEQ : Hid (nz L = refsM x) := Lib.hid (by unfold refsM refsL; rw [← HEeL.out, ← HEe9.out, ← HEe8.out, ← HEe6.out, ← HE0.out])
      clear HEeL HEe9 HEe8 HEe6 HE0
      obtain ⟨aL, cL, hvL, -, -⟩ := HO10.val
      cases hvL
      have HJ1 := Lib.hid (HJ0.out W10 HO10.chg)
      have HOL := Lib.hid HO10
      have hlL : (L.length : Int) ≤ 9223372036854775807 := by have := HAC.out; omega
      clear HO10
      go_wp2_with fail
      go_loopw [7, 64] (fun _ u64 wr => ∃ k : Nat, k ≤ L.length ∧ u64 = .int .i64 k ∧ Hid (J W10.heap.size (nz (L.take k)) wr) ∧ Hid (RowAt wr 3 1 (.slice a10 L.length c10) L.length (intC L))) (fun _ u64 _ => L.length - (intOf u64).toNat)
      case atStart => exact ⟨0, by omega, rfl, HJ1, Lib.hid HOL.out.row⟩
      case round =>
        obtain ⟨k, hk, rfl, HJ, HRW⟩ := hrel
        by_cases hlt : k < L.length
        · have h0 : (0 : Int) ≤ (k : Int) := by omega
          have h1 : (k : Int) < (L.length : Int) := by omega
          obtain ⟨gL, oL, cL', hv, -, -⟩ := HRW.out.addr (by omega)
          cases hv
          have c0 := HRW.out.cellAt k (.int .i64 L[k]) (by simp [intC, hlt])
          have w64 : IntKind.i64.wrap ((k : Int) + 1) = ((k + 1 : Nat) : Int) := IntWalk.i64_in _ (by omega)
          have HT := Lib.hid (nz_take hlt)
          have HLT := Lib.hid hlt
          have HNX := Lib.hid (show k + 1 ≤ L.length from hlt)
          have HPF : Hid (nz (L.take (k + 1)) <+: refsM x) := Lib.hid (by rw [← HEQ.out]; exact (List.take_prefix _ _).filter _)
          have HPF0 : Hid (nz (L.take k) <+: refsM x) := Lib.hid (by rw [← HEQ.out]; exact (List.take_prefix _ _).filter _)
          clear hk
          generalize L[k] = z at *
          clear hlt
          go_upto_region 14 with fail
          go_cut [75] from 68 to 76 (fun u75 wx => u75 = .bool false ∧ Hid (J W10.heap.size (nz (L.take (k + 1))) wx) ∧ Hid (RowAt wx 3 1 (.slice (some ⟨gL, oL, none⟩) L.length c10) L.length (intC L)))
          case first =>
            cases hz : z != 0
            · have hz' : nz [z] = [] := by simp [nz, hz]
              rw [hz', List.append_nil] at HT
              clear hz'
              go_wp2_with fail
              go_meet
              exact ⟨rfl, by rw [HT.out]; exact HJ, HRW⟩
            · have hz' : nz [z] = [z] := by simp [nz, hz]
              rw [hz'] at HT
              rw [HT.out] at HPF
              clear hz'
              obtain ⟨fn, tmps, assign, body, hy, hR⟩ := HYY.out W10.heap.size (nz (L.take k)) z wr (HOL.out.chg.size) HJ.out HPF0.out HPF.out
              refine (wpIn_wide (n := nf) (P := Tryd.prog)).1 ?_
              gi_wp2
              refine ⟨fun h => (by cases h), ?_⟩
              refine hR.mono ?_
              rintro e Wr ⟨rfl, hJr, hkr⟩
              gi_wp2
              go_meet
              exact ⟨rfl, by rw [HT.out]; exact hJr, Lib.hid (HRW.out.keep fun kk o hv ho => hkr kk o (HOL.out.lo kk hv) (HOL.out.lt kk hv) ho)⟩
          case rest =>
            obtain ⟨rfl, HJ2, HRW2⟩ := hcut
            go_wp2_with fail
            go_roundw
            case rel => exact ⟨k + 1, HNX.out, rfl, HJ2, HRW2⟩
            case measure => have := HLT.out; simp [intOf, w64]; omega
        · have hk2 : k = L.length := by omega
          subst hk2
          rw [List.take_length, HEQ.out] at HJ
          have HSZ := Lib.hid HOL.out.chg.size
          clear hlt hk
          go_wp2_with fail
          go_end0
          exact ⟨⟨_, rfl⟩, _, HSZ.out, HJ.out⟩
end Go.Proofs.YthiiehanlconeaaDoor
