/-
  collect.Frames: the handles in frames.
-/
import Derived.Test.YthiiehanlconeaaDoorOut
namespace Go.Proofs.YthiiehanlconeaaDoor
open Go.RowKit
set_option linter.unusedVariables false
set_option linter.unusedSimpArgs false

def frameRefs (f : Frm) : List Int := (((refsV [f.this] ++ refsV f.locals) ++ refsV f.stack) ++ [f.env, f.object]) ++ refsV f.values
def framesM (l : List Frm) : List Int := nz (l.flatMap frameRefs)
def FrmOk (f : Frm) : Prop := f.locals.length ≤ 100 ∧ f.stack.length ≤ 100 ∧ f.values.length ≤ 100
theorem frameRefs_len {f : Frm} (h : FrmOk f) : (frameRefs f).length ≤ 303 := by
  obtain ⟨h1, h2, h3⟩ := h
  have a1 := refsV_len [f.this]
  have a2 := refsV_len f.locals
  have a3 := refsV_len f.stack
  have a4 := refsV_len f.values
  unfold frameRefs
  simp only [List.length_append, List.length_cons, List.length_nil] at *
  omega
theorem framesRefs_len : ∀ (l : List Frm), (∀ f ∈ l, FrmOk f) → (l.flatMap frameRefs).length ≤ l.length * 303
  | [], _ => by simp
  | f :: l, h => by
    have h1 := frameRefs_len (h f (by simp))
    have h2 := framesRefs_len l (fun g hg => h g (by simp [hg]))
    rw [List.flatMap_cons, List.length_append, List.length_cons, Nat.add_mul]
    omega
def frmC (f : Frm) (vl vs vv : Value) : List Value := [.int .i64 f.kind, .int .i64 f.func, .int .i64 f.pc, .int .i64 f.tkind, .int .i64 f.tint, .string f.tstr, .int .i64 f.tref, vl, vs, .int .i64 f.env, .int .i64 f.scope, .int .i64 f.mode, .int .i64 f.object, .int .i64 f.host, .int .i64 f.phase, vv]
/-- A frame that is being looked through. -/
structure FrS (w W : World) (bt : Nat) (cs : List Value) (v : Value) (acc : List Int) : Prop where
  out : OutI w W v acc
  blk : W.heap[bt]? = some (.cells cs.toArray 106 (0, 0))
  ne : ∀ k, v.ownBlock = some k → k ≠ bt
section
variable {w W W1 W2 : World} {bt : Nat} {cs : List Value} {v v2 : Value} {acc acc2 : List Int}
theorem FrS.still (h : FrS w W bt cs v acc) (hc : Chg (fun _ => False) W W1) : FrS w W1 bt cs v acc := ⟨h.out.still hc, hc.keep h.blk (fun x => x), h.ne⟩
theorem FrS.cell (h : FrS w W bt cs v acc) (j : Nat) (u : Value) (hu : cs[j]? = some u) : W.cell? ⟨bt, j, none⟩ = some u := cell_of_block h.blk (by simpa using hu)
theorem FrS.app (h : FrS w W bt cs v acc) (h1 : Chg (fun _ => False) W W1) (ho : OutI w W2 v2 acc2) (hc : Chg (fun k => v.ownBlock = some k) W1 W2) (hold : ∀ k, v2.ownBlock = some k → v.ownBlock = some k ∨ W1.heap.size ≤ k) : FrS w W2 bt cs v2 acc2 := by
  have hb := h1.keep h.blk (fun x => x)
  refine ⟨ho, hc.keep hb (fun x => h.ne _ x rfl), fun k hk e => ?_⟩
  rcases hold k hk with x | x
  · exact h.ne k x e
  · have := lt_of_block hb; omega
end

set_option maxHeartbeats 3200000 in
set_option maxRecDepth 100000 in
theorem frames_any (w : World) (v : Value) (l : List Frm) (F : List Nat) (hv : (frmR.row 106).own w [v] l F) (hl : l.length ≤ 1000) (hok : ∀ f ∈ l, FrmOk f) :
    Calls Tryd.prog 32 #[v] w fun e w' => ∃ v', e = .returned v' ∧ OutI w w' v' (framesM l) := by
  obtain ⟨xs0, Fs0, hop⟩ := Rep.opened hv
  obtain ⟨ad, cap, rfl, hle, hcap⟩ := hop.val
  have HV0 := Lib.hid hv
  have HOK := Lib.hid hok
  have HL := Lib.hid hl
  have hln : (l.length : Int) ≤ 9223372036854775807 := by omega
  clear hv hop hle hcap hok hl
  go_enter Tryd.func32, Tryd.ntmps32
  go_wp2_with fail
  go_loopw [3, 5, 8] (fun u3 _ u8 wr => ∃ (k : Nat) (a : Option Addr) (n c : Nat), k ≤ l.length ∧ u8 = .int .i64 k ∧ u3 = .slice a n c ∧ OutI w wr (.slice a n c) ((l.take k).flatMap frameRefs)) (fun _ _ u8 _ => l.length - (intOf u8).toNat)
  case atStart => exact ⟨0, none, 0, 0, by omega, rfl, rfl, OutI.nil w⟩
  case round =>
    obtain ⟨k, a, n, c, hk, rfl, rfl, HO⟩ := hrel
    by_cases hlt : k < l.length
    · have h0 : (0 : Int) ≤ (k : Int) := by omega
      have h1 : (k : Int) < (l.length : Int) := by omega
      obtain ⟨xs1, Fs1, hop⟩ := Rep.opened HV0.out
      obtain ⟨g, off, cap', hv, -, -, -, -, hat⟩ := hop.at (by omega)
      cases hv
      obtain ⟨x, G, hx, -, hcell⟩ := hat k hlt
      obtain ⟨vl, vs, vv, Fl, Fs', Fv, rfl, ol, os, ov, -⟩ := hx
      obtain ⟨vl', hvl, rl, -⟩ := row_flat.1 ol
      obtain rfl : vl = vl' := by simpa using hvl
      obtain ⟨vs', hvs, rs, -⟩ := row_flat.1 os
      obtain rfl : vs = vs' := by simpa using hvs
      obtain ⟨vv', hvv, rv, -⟩ := row_flat.1 ov
      obtain rfl : vv = vv' := by simpa using hvv
      obtain ⟨al, cl, rfl, -⟩ := rl.slice
      obtain ⟨as_, cs_, rfl, -⟩ := rs.slice
      obtain ⟨av, cv, rfl, -⟩ := rv.slice

      have c0 := HO.chg.cell (hcell 0 _ rfl)
      have c1 := HO.chg.cell (hcell 1 _ rfl)
      have c2 := HO.chg.cell (hcell 2 _ rfl)
      have c3 := HO.chg.cell (hcell 3 _ rfl)
      have c4 := HO.chg.cell (hcell 4 _ rfl)
      have c5 := HO.chg.cell (hcell 5 _ rfl)
      have c6 := HO.chg.cell (hcell 6 _ rfl)
      have c7 := HO.chg.cell (hcell 7 _ rfl)
      have c8 := HO.chg.cell (hcell 8 _ rfl)
      have c9 := HO.chg.cell (hcell 9 _ rfl)
      have c10 := HO.chg.cell (hcell 10 _ rfl)
      have c11 := HO.chg.cell (hcell 11 _ rfl)
      have c12 := HO.chg.cell (hcell 12 _ rfl)
      have c13 := HO.chg.cell (hcell 13 _ rfl)
      have c14 := HO.chg.cell (hcell 14 _ rfl)
      have c15 := HO.chg.cell (hcell 15 _ rfl)
      have e16 : off + k * frmR.n = off + k * 16 := rfl
      rw [e16] at c0 c1 c2 c3 c4 c5 c6 c7 c8 c9 c10 c11 c12 c13 c14 c15
      rw [Nat.add_zero] at c0
      have w64 : IntKind.i64.wrap ((k : Int) + 1) = ((k + 1 : Nat) : Int) := IntWalk.i64_in _ (by omega)
      have HT : Hid ((l.take (k + 1)).flatMap frameRefs = (l.take k).flatMap frameRefs ++ frameRefs l[k]) := Lib.hid (by rw [List.take_succ_eq_append_getElem hlt, List.flatMap_append]; simp)
      have HLT := Lib.hid hlt
      have HOKF := Lib.hid (HOK.out l[k] (List.getElem_mem hlt))
      have HAC : Hid (((l.take k).flatMap frameRefs).length ≤ 303000) := Lib.hid (by
        have h1 := framesRefs_len (l.take k) (fun f hf => HOK.out f (List.mem_of_mem_take hf))
        have h2 : (l.take k).length ≤ 1000 := Nat.le_trans (List.length_take_le ..) (by have := HL.out; omega)
        omega)
      have HNX := Lib.hid (show k + 1 ≤ l.length from hlt)
      have HR0 : Hid (∀ (L : List Val) (v : Value), (L = l[k].locals ∧ v = .slice al l[k].locals.length cl) ∨ (L = l[k].stack ∧ v = .slice as_ l[k].stack.length cs_) ∨ (L = l[k].values ∧ v = .slice av l[k].values.length cv) → ∀ W', Chg (fun _ => False) w W' → RowAt W' 38 4 v L.length (L.flatMap Val.cells)) := Lib.hid (by
        rintro L v (⟨rfl, rfl⟩ | ⟨rfl, rfl⟩ | ⟨rfl, rfl⟩) W' hc
        · exact rl.chg hc (fun _ _ x => x)
        · exact rs.chg hc (fun _ _ x => x)
        · exact rv.chg hc (fun _ _ x => x))
      have RL := Lib.hid (rl.chg HO.chg (fun _ _ x => x))
      have RS := Lib.hid (rs.chg HO.chg (fun _ _ x => x))
      have RV := Lib.hid (rv.chg HO.chg (fun _ _ x => x))
      clear hcell hk hat hop ol os ov rl rs rv e16 hvl hvs hvv
      generalize l[k] = f at *
      generalize (l.take k).flatMap frameRefs = acc0 at *
      clear hlt
      go_upto_region 5 with fail
      have hblk := alloc_block wr (.cells #[.int .i64 f.kind, .int .i64 f.func, .int .i64 f.pc, .int .i64 f.tkind, .int .i64 f.tint, .string f.tstr, .int .i64 f.tref, .slice al f.locals.length cl, .slice as_ f.stack.length cs_, .int .i64 f.env, .int .i64 f.scope, .int .i64 f.mode, .int .i64 f.object, .int .i64 f.host, .int .i64 f.phase, .slice av f.values.length cv] 106)
      have hc1 := Chg.alloc (fun _ => False) wr (.cells #[.int .i64 f.kind, .int .i64 f.func, .int .i64 f.pc, .int .i64 f.tkind, .int .i64 f.tint, .string f.tstr, .int .i64 f.tref, .slice al f.locals.length cl, .slice as_ f.stack.length cs_, .int .i64 f.env, .int .i64 f.scope, .int .i64 f.mode, .int .i64 f.object, .int .i64 f.host, .int .i64 f.phase, .slice av f.values.length cv] 106)
      have FS0 : FrS w _ wr.heap.size (frmC f (.slice al f.locals.length cl) (.slice as_ f.stack.length cs_) (.slice av f.values.length cv)) (.slice a n c) acc0 := ⟨HO.still hc1, hblk, fun k hk e => by have := HO.lt k hk; omega⟩
      have HROW : Hid (∀ (L : List Val) (v : Value), (L = f.locals ∧ v = .slice al f.locals.length cl) ∨ (L = f.stack ∧ v = .slice as_ f.stack.length cs_) ∨ (L = f.values ∧ v = .slice av f.values.length cv) → ∀ W', Chg (fun _ => False) w W' → RowAt W' 38 4 v L.length (L.flatMap Val.cells)) := HR0
      have RL1 := Lib.hid (RL.out.chg hc1 (fun _ _ x => x))
      have RS1 := Lib.hid (RS.out.chg hc1 (fun _ _ x => x))
      have RV1 := Lib.hid (RV.out.chg hc1 (fun _ _ x => x))
      clear c0 c1 c2 c3 c4 c5 c6 c7 c8 c9 c10 c11 c12 c13 c14 c15 hblk RL RS RV h0 h1 HO hc1 HR0
      generalize wr.alloc (.cells #[.int .i64 f.kind, .int .i64 f.func, .int .i64 f.pc, .int .i64 f.tkind, .int .i64 f.tint, .string f.tstr, .int .i64 f.tref, .slice al f.locals.length cl, .slice as_ f.stack.length cs_, .int .i64 f.env, .int .i64 f.scope, .int .i64 f.mode, .int .i64 f.object, .int .i64 f.host, .int .i64 f.phase, .slice av f.values.length cv] 106) = W0 at *
      generalize wr.heap.size = bt at *
      -- region 5
      have t3 := FS0.cell 3 _ rfl
      have t4 := FS0.cell 4 _ rfl
      have t5 := FS0.cell 5 _ rfl
      have t6 := FS0.cell 6 _ rfl
      have HV := Lib.hid (values_any _ _ [f.this] (RowAt.lit (W := W0) (e := 38) (n := 1) (size := 4) [.int .i64 f.tkind, .int .i64 f.tint, .string f.tstr, .int .i64 f.tref] rfl (by simp [maxLen])) (Few.of 1 (Nat.le_refl _) (by omega)))
      have HN := Lib.hid (Nat.le_trans (refsV_len [f.this]) (show 1 ≤ 1 from Nat.le_refl _))
      have HB : Hid ((acc0 ++ refsV [f.this]).length ≤ 303000 + 1) := Lib.hid (by rw [List.length_append]; have := HAC.out; have := HN.out; omega)
      have HFW : Hid (Few ((acc0).length + (refsV [f.this]).length)) := Lib.hid ⟨by have := HB.out; rw [List.length_append] at this; omega⟩
      go_upto_region 6 with (first
        | (go_at_call 33; refine HV.out.mono ?_; rintro e wq ⟨vq, rfl, HQ⟩; obtain ⟨aq, cq, rfl, -⟩ := HQ.val; have hcq := (Chg.alloc (fun _ => False) W0 (.cells #[.int .i64 f.tkind, .int .i64 f.tint, .string f.tstr, .int .i64 f.tref] 38)).trans' HQ.chg; have HO1 := FS0.out.still hcq; clear HV)
        | (at_builtin; refine wpList_out rfl (.tmp 12) (.tmp 16) rfl _ (acc0) rfl HO1 _ (refsV [f.this]) rfl HQ.row HFW.out ?_; intro a1 n1 c1 W1 HO2 hch2 hold2))
      have FS1 := FS0.app hcq HO2 hch2 hold2
      have RL1' := Lib.hid (HROW.out f.locals _ (by first | exact .inl ⟨rfl, rfl⟩ | exact .inr (.inl ⟨rfl, rfl⟩) | exact .inr (.inr ⟨rfl, rfl⟩)) W1 FS1.out.chg)
      have RS1' := Lib.hid (HROW.out f.stack _ (by first | exact .inl ⟨rfl, rfl⟩ | exact .inr (.inl ⟨rfl, rfl⟩) | exact .inr (.inr ⟨rfl, rfl⟩)) W1 FS1.out.chg)
      have RV1' := Lib.hid (HROW.out f.values _ (by first | exact .inl ⟨rfl, rfl⟩ | exact .inr (.inl ⟨rfl, rfl⟩) | exact .inr (.inr ⟨rfl, rfl⟩)) W1 FS1.out.chg)
      clear HO2 hch2 hold2 HO1 HFW hcq HQ HN t3 t4 t5 t6 FS0 HAC
      clear RL1
      have RL1 := RL1'
      clear RL1'
      clear RS1
      have RS1 := RS1'
      clear RS1'
      clear RV1
      have RV1 := RV1'
      clear RV1'
      have HAC := HB
      clear HB
      -- region 6
      have t7 := FS1.cell 7 _ rfl
      have HV := Lib.hid (values_any W1 _ f.locals RL1.out (⟨by have := HOKF.out; unfold FrmOk at this; omega⟩ : Few _))
      have HN : Hid ((refsV f.locals).length ≤ 100) := Lib.hid (Nat.le_trans (refsV_len _) (by have := HOKF.out; unfold FrmOk at this; omega))
      have HB : Hid ((acc0 ++ refsV [f.this] ++ refsV f.locals).length ≤ 303000 + 1 + 100) := Lib.hid (by rw [List.length_append]; have := HAC.out; have := HN.out; omega)
      have HFW : Hid (Few ((acc0 ++ refsV [f.this]).length + (refsV f.locals).length)) := Lib.hid ⟨by have := HB.out; rw [List.length_append] at this; omega⟩
      go_upto_region 7 with (first
        | (go_at_call 33; refine HV.out.mono ?_; rintro e wq ⟨vq, rfl, HQ⟩; obtain ⟨aq, cq, rfl, -⟩ := HQ.val; have hcq := HQ.chg; have HO1 := FS1.out.still hcq; clear HV)
        | (at_builtin; refine wpList_out rfl (.tmp 18) (.tmp 21) rfl _ (acc0 ++ refsV [f.this]) rfl HO1 _ (refsV f.locals) rfl HQ.row HFW.out ?_; intro a2 n2 c2 W2 HO2 hch2 hold2))
      have FS2 := FS1.app hcq HO2 hch2 hold2
      have RS1' := Lib.hid (HROW.out f.stack _ (by first | exact .inl ⟨rfl, rfl⟩ | exact .inr (.inl ⟨rfl, rfl⟩) | exact .inr (.inr ⟨rfl, rfl⟩)) W2 FS2.out.chg)
      have RV1' := Lib.hid (HROW.out f.values _ (by first | exact .inl ⟨rfl, rfl⟩ | exact .inr (.inl ⟨rfl, rfl⟩) | exact .inr (.inr ⟨rfl, rfl⟩)) W2 FS2.out.chg)
      clear HO2 hch2 hold2 HO1 HFW hcq HQ HN t7 FS1 HAC
      clear RS1
      have RS1 := RS1'
      clear RS1'
      clear RV1
      have RV1 := RV1'
      clear RV1'
      have HAC := HB
      clear HB
      -- region 7
      have t8 := FS2.cell 8 _ rfl
      have HV := Lib.hid (values_any W2 _ f.stack RS1.out (⟨by have := HOKF.out; unfold FrmOk at this; omega⟩ : Few _))
      have HN : Hid ((refsV f.stack).length ≤ 100) := Lib.hid (Nat.le_trans (refsV_len _) (by have := HOKF.out; unfold FrmOk at this; omega))
      have HB : Hid ((acc0 ++ refsV [f.this] ++ refsV f.locals ++ refsV f.stack).length ≤ 303000 + 1 + 100 + 100) := Lib.hid (by rw [List.length_append]; have := HAC.out; have := HN.out; omega)
      have HFW : Hid (Few ((acc0 ++ refsV [f.this] ++ refsV f.locals).length + (refsV f.stack).length)) := Lib.hid ⟨by have := HB.out; rw [List.length_append] at this; omega⟩
      go_upto_region 8 with (first
        | (go_at_call 33; refine HV.out.mono ?_; rintro e wq ⟨vq, rfl, HQ⟩; obtain ⟨aq, cq, rfl, -⟩ := HQ.val; have hcq := HQ.chg; have HO1 := FS2.out.still hcq; clear HV)
        | (at_builtin; refine wpList_out rfl (.tmp 23) (.tmp 26) rfl _ (acc0 ++ refsV [f.this] ++ refsV f.locals) rfl HO1 _ (refsV f.stack) rfl HQ.row HFW.out ?_; intro a3 n3 c3 W3 HO2 hch2 hold2))
      have FS3 := FS2.app hcq HO2 hch2 hold2
      have RV1' := Lib.hid (HROW.out f.values _ (by first | exact .inl ⟨rfl, rfl⟩ | exact .inr (.inl ⟨rfl, rfl⟩) | exact .inr (.inr ⟨rfl, rfl⟩)) W3 FS3.out.chg)
      clear HO2 hch2 hold2 HO1 HFW hcq HQ HN t8 FS2 HAC
      clear RV1
      have RV1 := RV1'
      clear RV1'
      have HAC := HB
      clear HB
      -- region 8
      have t9 := FS3.cell 9 _ rfl
      have t12 := FS3.cell 12 _ rfl
      have HO1 := FS3.out.still (Chg.alloc (fun _ => False) W3 (.cells #[.int .i64 f.env, .int .i64 f.object] 3))
      have HB : Hid ((acc0 ++ refsV [f.this] ++ refsV f.locals ++ refsV f.stack ++ [f.env, f.object]).length ≤ 303000 + 1 + 100 + 100 + 2) := Lib.hid (by rw [List.length_append]; have := HAC.out; simp only [List.length_cons, List.length_nil] at *; omega)
      have HFW : Hid (Few ((acc0 ++ refsV [f.this] ++ refsV f.locals ++ refsV f.stack).length + ([f.env, f.object]).length)) := Lib.hid ⟨by have := HB.out; rw [List.length_append] at this; omega⟩
      go_upto_region 9 with (first
        | (at_builtin; refine wpList_out rfl (.tmp 28) (.tmp 33) rfl _ (acc0 ++ refsV [f.this] ++ refsV f.locals ++ refsV f.stack) rfl HO1 _ ([f.env, f.object]) rfl (RowAt.lit [.int .i64 f.env, .int .i64 f.object] rfl (by simp [maxLen])) HFW.out ?_; intro a4 n4 c4 W4 HO2 hch2 hold2))
      have FS4 := FS3.app (Chg.alloc (fun _ => False) W3 _) HO2 hch2 hold2
      have RV1' := Lib.hid (HROW.out f.values _ (by first | exact .inl ⟨rfl, rfl⟩ | exact .inr (.inl ⟨rfl, rfl⟩) | exact .inr (.inr ⟨rfl, rfl⟩)) W4 FS4.out.chg)
      clear HO2 hch2 hold2 HO1 HFW t9 t12 FS3 HAC
      clear RV1
      have RV1 := RV1'
      clear RV1'
      have HAC := HB
      clear HB
      -- region 9
      have t15 := FS4.cell 15 _ rfl
      have HV := Lib.hid (values_any W4 _ f.values RV1.out (⟨by have := HOKF.out; unfold FrmOk at this; omega⟩ : Few _))
      have HN : Hid ((refsV f.values).length ≤ 100) := Lib.hid (Nat.le_trans (refsV_len _) (by have := HOKF.out; unfold FrmOk at this; omega))
      have HB : Hid ((acc0 ++ refsV [f.this] ++ refsV f.locals ++ refsV f.stack ++ [f.env, f.object] ++ refsV f.values).length ≤ 303000 + 1 + 100 + 100 + 2 + 100) := Lib.hid (by rw [List.length_append]; have := HAC.out; have := HN.out; omega)
      have HFW : Hid (Few ((acc0 ++ refsV [f.this] ++ refsV f.locals ++ refsV f.stack ++ [f.env, f.object]).length + (refsV f.values).length)) := Lib.hid ⟨by have := HB.out; rw [List.length_append] at this; omega⟩
      go_wp2_with (first
        | (go_at_call 33; refine HV.out.mono ?_; rintro e wq ⟨vq, rfl, HQ⟩; obtain ⟨aq, cq, rfl, -⟩ := HQ.val; have hcq := HQ.chg; have HO1 := FS4.out.still hcq; clear HV)
        | (at_builtin; refine wpList_out rfl (.tmp 35) (.tmp 38) rfl _ (acc0 ++ refsV [f.this] ++ refsV f.locals ++ refsV f.stack ++ [f.env, f.object]) rfl HO1 _ (refsV f.values) rfl HQ.row HFW.out ?_; intro a5 n5 c5 W5 HO2 hch2 hold2))
      have FS5 := FS4.app hcq HO2 hch2 hold2
      clear HO2 hch2 hold2 HO1 HFW hcq HQ HN t15 FS4 HAC
      have HAC := HB
      clear HB
      go_roundw
      case rel => exact ⟨k + 1, a5, n5, c5, HNX.out, rfl, rfl, by rw [HT.out, show acc0 ++ frameRefs f = acc0 ++ refsV [f.this] ++ refsV f.locals ++ refsV f.stack ++ [f.env, f.object] ++ refsV f.values from by simp [frameRefs]]; exact FS5.out⟩
      case measure => have := HLT.out; simp [intOf, w64]; omega
    · have hk2 : k = l.length := by omega
      subst hk2
      rw [List.take_length] at HO
      have HW := Lib.hid (without_any w wr _ _ HO (⟨by have := framesRefs_len l HOK.out; have := HL.out; omega⟩ : Few _))
      have HO1 := Lib.hid HO
      clear HO hlt hk
      go_wp2_with (first | (go_at_call 48; refine HW.out.mono ?_; rintro e w2 ⟨v2, rfl, HO2⟩))
      go_ret
      exact ⟨_, rfl, ⟨HO2.row, fun k hk => Nat.le_trans HO1.out.chg.size (HO2.lo k hk), HO1.out.chg.trans' HO2.chg⟩⟩
end Go.Proofs.YthiiehanlconeaaDoor
