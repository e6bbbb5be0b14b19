/-
  The law's join, a link of sort 2.
-/
import Derived.Test.YthiiehanlconeaaJoi
import Derived.Test.YthiiehanlconeaaHeldT
namespace Go.Proofs.Ythiiehanlconeaa
open Go.RowKit
set_option linter.unusedVariables false
set_option linter.unusedSimpArgs false

set_option maxHeartbeats 12800000 in
set_option maxRecDepth 100000 in
theorem join_arm2 (w0 w : World) (bh : Nat) (hp : Hp) (vl vx : Value) (n : Nat) (L : List Int) (xs : List RObj) (Fh Fx B : List Nat) (k : Lk) (H : GS w0 w bh hp vx xs Fh Fx B) (hL : RowAt w 3 1 vl L.length (intC L)) (hB : ∀ b, vl.ownBlock = some b → b ∈ B)
    (ok : GOk n L hp xs) (hk : LkOk k) (hob : ∀ s (h : s < hp.slots.length), ObjOk hp.slots[s].obj) (hxo : ∀ x ∈ xs, x.strong.length ≤ 1000 ∧ x.keys.length ≤ 1000 ∧ x.vals.length ≤ 1000) (hr0 : k.sort % 7 = 2) :
    Calls Try.prog 26 #[.pointer (some ⟨bh, 0, none⟩), vl, vx, .agg #[.int .u8 (k.frm : Int), .int .u8 (k.sort : Int), .int .u8 (k.to_ : Int), .int .u8 (k.by_ : Int)]] w
      fun e w' => e = .returned (.tuple #[]) ∧ ∃ key Fh' Fx', GS w0 w' bh (joinM key n L hp xs k).1 vx (joinM key n L hp xs k).2 Fh' Fx' B ∧ KeepB B w w' := by
  have HR0 := Lib.hid hr0
  clear hr0
  have hLn : L.length = n := by rw [ok.L]; simp
  obtain ⟨gl, ol, cl, rfl, -, -⟩ := hL.addr (by rw [hLn]; exact ok.pos)
  have ha : k.frm % n < n := Nat.mod_lt _ ok.pos
  have hb : k.to_ % n < n := Nat.mod_lt _ ok.pos
  have hc : k.by_ % n < n := Nat.mod_lt _ ok.pos
  have z0 : ((n : Int) == 0) = false := beq_false_of_ne (by have := ok.pos; omega)
  have z1 : ¬ n = 0 := by have := ok.pos; omega
  have z2 : ¬ (n : Int) = 0 := by omega
  have tf := tmod_nat k.frm n
  have tt := tmod_nat k.to_ n
  have tb := tmod_nat k.by_ n
  have wf : IntKind.i64.wrap (k.frm : Int) = (k.frm : Int) := IntWalk.i64_in _ (by have := hk.frm; omega)
  have wt : IntKind.i64.wrap (k.to_ : Int) = (k.to_ : Int) := IntWalk.i64_in _ (by have := hk.to_; omega)
  have wb : IntKind.i64.wrap (k.by_ : Int) = (k.by_ : Int) := IntWalk.i64_in _ (by have := hk.by_; omega)
  have hcL : ∀ i, i < n → w.cell? ⟨gl, ol + i, none⟩ = some (.int .i64 (L.getD i 0)) := fun i hi => hL.cellAt i _ (by rw [List.getD_eq_getElem?_getD, List.getElem?_eq_getElem (show i < L.length by rw [hLn]; exact hi)]; simp [intC, hLn, hi])
  have HCL := Lib.hid hcL
  rw [hLn] at *
  generalize hM : (fun key => joinM key n L hp xs k) = M
  have hM' : ∀ key, joinM key n L hp xs k = M key := fun key => by rw [← hM]
  simp only [hM']
  have HM := Lib.hid hM'
  clear hM hM' hLn
  generalize hai : k.frm % n = a at *
  generalize hbi : k.to_ % n = b at *
  generalize hci : k.by_ % n = c at *
  have HAI := Lib.hid hai
  have HBI := Lib.hid hbi
  have HCI := Lib.hid hci
  have HH := Lib.hid H
  have HOK := Lib.hid ok
  have HLK := Lib.hid hk
  have HOB := Lib.hid hob
  have HXO := Lib.hid hxo
  have HLR := Lib.hid hL
  have hB1 := Lib.hid hB
  clear H ok hk hob hxo hL hB hcL hai hbi hci
  go_enter Try.func26, Try.ntmps26
  go_upto_region 2 with fail
  have HG1 := Lib.hid (HH.out.alloc (.cells #[.int .u8 (k.frm : Int), .int .u8 (k.sort : Int), .int .u8 (k.to_ : Int), .int .u8 (k.by_ : Int)] 86))
  have HC1 := Lib.hid (Chg.alloc (fun _ => False) w (.cells #[.int .u8 (k.frm : Int), .int .u8 (k.sort : Int), .int .u8 (k.to_ : Int), .int .u8 (k.by_ : Int)] 86))
  have hk7 := alloc_block w (.cells #[.int .u8 (k.frm : Int), .int .u8 (k.sort : Int), .int .u8 (k.to_ : Int), .int .u8 (k.by_ : Int)] 86)
  have k70 := cell_of_block (i := 0) hk7 rfl
  have k72 := cell_of_block (i := 2) hk7 rfl
  have k73 := cell_of_block (i := 3) hk7 rfl
  simp only [List.getElem_toArray, List.getElem_cons_zero, List.getElem_cons_succ] at k70 k72 k73
  have HK7 := Lib.hid hk7
  clear hk7
  generalize w.alloc (.cells #[.int .u8 (k.frm : Int), .int .u8 (k.sort : Int), .int .u8 (k.to_ : Int), .int .u8 (k.by_ : Int)] 86) = w1 at *
  generalize w.heap.size = b7 at *
  go_cut [9, 10, 11] from 9 to 244 (fun u9 u10 u11 wx => u9 = .int .i64 (a : Int) ∧ u10 = .int .i64 (b : Int) ∧ u11 = .int .i64 (c : Int) ∧ Hid (Chg (fun _ => False) w1 wx))
  case first =>
    go_quiet (fail)
    all_goals (
      go_wp2_with fail
      go_meet
      exact ⟨rfl, rfl, rfl, Lib.hid (Chg.drewN _ _ _)⟩)
  case rest =>
  obtain ⟨rfl, rfl, rfl, HCX⟩ := hcut
  clear k70 k72 k73 tf tt tb wf wt wb z0 z1 z2
  have HG2 := Lib.hid (HG1.out.still HCX.out)
  have HC2 := Lib.hid (HC1.out.trans' HCX.out)
  have HK72 := Lib.hid (HCX.out.keep HK7.out (fun x => x))
  clear HG1 HC1 HK7 HCX
  -- the object
  have hsa : 12 + a < hp.slots.length := by rw [HOK.out.slots]; omega
  have hax : a < xs.length := by rw [HOK.out.xs]; exact ha
  have hga : L.getD a 0 = handleM hp.base hp.stride ((12 + a : Nat) : Int) := by rw [HOK.out.L, List.getD_eq_getElem?_getD, List.getElem?_map, List.getElem?_range ha]; rfl
  have hso : slotOf hp (L.getD a 0) = some (12 + a) := by
    rw [hga]
    exact slotOf_handle hsa (by rw [List.getD_eq_getElem?_getD, List.getElem?_eq_getElem hsa]; exact HOK.out.used _ hsa) (by rw [HOK.out.slots]; have := HOK.out.few; omega)
  have hin : -9223372036854775808 ≤ L.getD a 0 ∧ L.getD a 0 ≤ 9223372036854775807 := by
    have := handle_in hp.base hp.stride (i := 12 + a) (by have := HOK.out.few; omega)
    rw [hga]; omega
  have ca := HC2.out.cell (HCL.out a ha)
  have cb := HC2.out.cell (HCL.out b hb)
  obtain ⟨gh, oh, kh, ch2, Go_, HOBJ, hback⟩ := gsObj HG2.out hsa
  have HAT := Lib.hid (hat_any wc bh 0 hp Fh (L.getD a 0) _ HG2.out.heap.here (by rw [Nat.zero_add]; exact ch2) hin)
  rw [hso] at HAT
  rw [show objPtr (.slice (some ⟨gh, oh, none⟩) hp.slots.length kh) (some (12 + a)) = some ⟨gh, oh + (12 + a) * 11 + 1, none⟩ from rfl] at HAT
  have CH2 := Lib.hid ch2
  clear hga hso hin hback HOBJ ch2
  have ia0 : (0 : Int) ≤ (a : Int) := by omega
  have ia1 : (a : Int) < (n : Int) := by omega
  have ib0 : (0 : Int) ≤ (b : Int) := by omega
  have ib1 : (b : Int) < (n : Int) := by omega
  generalize hlb : L.getD b 0 = hb_ at *
  have HLB := Lib.hid hlb
  clear hlb
  obtain ⟨gx, ox, cx, rfl, v1, v2, v3, HRC⟩ := roOpen HG2.out.x hax
  obtain ⟨as_, cs_, rfl, -⟩ := HRC.r1.slice
  have HRCH := Lib.hid HRC
  have HRF := Lib.hid (fun W => vref_any hb_ W)
  have HSL : Hid (xs[a].strong.length ≤ 1000) := Lib.hid (HXO.out _ (List.getElem_mem hax)).1
  have ix1 : (a : Int) < (xs.length : Int) := by omega
  clear HRC
  go_upto_region 5 with (first
    | (go_at_call 25; refine HAT.out.mono ?_; rintro e wa ⟨rfl, hca⟩; have cb := hca.cell cb)
    | (go_at_call 17; refine (HRF.out _).mono ?_; rintro e wr ⟨rfl, hcr⟩))
  have hc5 := ((hca.trans' hcr).allocR (.cells #[.int .i64 5, .int .i64 0, .string ⟨#[]⟩, .int .i64 hb_] 63))
  have HB13 := Lib.hid (alloc_block wr (.cells #[.int .i64 5, .int .i64 0, .string ⟨#[]⟩, .int .i64 hb_] 63))
  have CH5 := Lib.hid (hc5.cell CH2.out)
  have HG5 := Lib.hid (((HG2.out.still (hca.trans' hcr)).alloc (.cells #[.int .i64 5, .int .i64 0, .string ⟨#[]⟩, .int .i64 hb_] 63)))
  have HC5 := Lib.hid (HC2.out.trans' hc5)
  have HK75 := Lib.hid (hc5.keep HK72.out (fun x => x))
  have HRC5 := Lib.hid (HRCH.out.still hc5)
  clear hca hcr ca cb hc5 HG2 HC2 HK72 HRCH HAT HRF ib1
  generalize wr.alloc (.cells #[.int .i64 5, .int .i64 0, .string ⟨#[]⟩, .int .i64 hb_] 63) = W5 at *
  generalize wr.heap.size = b13 at *
  have x1 := HRC5.out.c1
  have HO0 : Hid (OutI W5 (W5.alloc (.cells #[] 3)) (.slice (some ⟨W5.heap.size, 0, none⟩) 0 0) []) := Lib.hid ⟨RowAt.lit [] rfl (by simp [maxLen]), fun k hk => by simp [Value.ownBlock] at hk; omega, Chg.alloc _ _ _⟩
  have HR1 : Hid (RowAt (W5.alloc (.cells #[] 3)) 3 1 (.slice as_ xs[a].strong.length cs_) (natI xs[a].strong).length (intC (natI xs[a].strong))) := Lib.hid (by rw [natI_len]; exact HRC5.out.r1.alloc _)
  have x1' := (Chg.alloc (fun _ => False) W5 (.cells #[] 3)).cell x1
  go_upto_region 6 with (first
    | (at_builtin; refine wpList_out rfl (.tmp 44) (.tmp 49) rfl _ [] rfl HO0.out _ (natI xs[a].strong) rfl HR1.out (⟨by have := HSL.out; rw [natI_len]; simp; omega⟩ : Few _) ?_; intro q1 q2 q3 W51 HO1 hch1 hold1; have HO1' := Lib.hid (HO1.alloc (.cells #[.int .i64 (b : Int)] 3)); clear HO0)
    | (at_builtin; refine wpList_out rfl (.tmp 50) (.tmp 52) rfl _ ([] ++ natI xs[a].strong) rfl HO1'.out _ [(b : Int)] rfl (RowAt.lit [.int .i64 (b : Int)] rfl (by simp [maxLen])) (⟨by have := HSL.out; rw [List.length_append, natI_len]; simp; omega⟩ : Few _) ?_; intro q4 q5 q6 W6 HO2 hch2 hold2))
  clear x1 x1' HO1 HO1' hch1 hold1 hch2 hold2 HR1
  have hll : ([] ++ natI xs[a].strong ++ [(b : Int)]) = natI (xs[a].strong ++ [b]) := by simp [natI]
  rw [hll] at HO2
  obtain ⟨bs, os, cs6, hv, -, -⟩ := HO2.row.addr (by rw [natI_len, List.length_append]; simp)
  cases hv
  have HBS : Hid (W5.heap.size ≤ bs) := Lib.hid (HO2.lo bs rfl)
  have HSO : Hid ((natR.row 3).own W6 [.slice (some ⟨bs, os, none⟩) (natI (xs[a].strong ++ [b])).length q6] (xs[a].strong ++ [b]) [bs]) := Lib.hid (by
    have hr := HO2.row
    have e : intC (natI (xs[a].strong ++ [b])) = (xs[a].strong ++ [b]).flatMap fun n : Nat => [Value.int .i64 (n : Int)] := by rw [flatMap_one]; unfold intC natI; rw [List.map_map]; rfl
    rw [e, natI_len] at hr
    have := ofRow_flat (n := 1) (f := fun n : Nat => [Value.int .i64 (n : Int)]) (hf := fun _ => rfl) (l := xs[a].strong ++ [b]) hr
    rw [natI_len]
    exact this)
  have HG6 := Lib.hid (HG5.out.more HO2.chg HBS.out (HO2.row.lt bs rfl))
  have HC6 := Lib.hid (HC5.out.trans' HO2.chg)
  have HC56 := Lib.hid HO2.chg
  have HK76 := Lib.hid (HO2.chg.keep HK75.out (fun x => x))
  have HB136 := Lib.hid (HO2.chg.keep HB13.out (fun x => x))
  clear HO2 hll HB13 HK75 HRC5 HC5
  rw [natI_len] at *
  generalize hsl : (xs[a].strong ++ [b]).length = sl at *
  clear hsl
  obtain ⟨gh', oh', kh', ch2, Gx, HOBJ, hback⟩ := gsObj HG6.out hsa
  have HAT2 : gh' = gh ∧ oh' = oh := by
    rw [HC56.out.cell CH5.out] at ch2
    cases ch2
    exact ⟨rfl, rfl⟩
  obtain ⟨rfl, rfl⟩ := HAT2
  obtain ⟨vp, ve, vd, vs, HOC⟩ := objOpen HOBJ
  have HOCH := Lib.hid HOC
  have HOBH := Lib.hid HOBJ
  have HBK := Lib.hid hback
  have HOKO := Lib.hid (HOB.out _ hsa)
  have hgo : (hp.slots.getD (12 + a) noSlt).obj = hp.slots[12 + a].obj := by rw [getD_get hsa]
  have HGO := Lib.hid hgo
  have HGX : Hid (xs.getD a noR = xs[a]) := Lib.hid (getD_get hax)
  have k71 := cell_of_block (i := 1) HK76.out rfl
  simp only [List.getElem_toArray, List.getElem_cons_zero, List.getElem_cons_succ] at k71
  have ts : ((k.sort : Int)).tmod 7 = ((k.sort % 7 : Nat) : Int) := tmod_nat k.sort 7
  have hr7 : k.sort % 7 < 7 := Nat.mod_lt _ (by omega)
  generalize hr : k.sort % 7 = r at *
  generalize h6 : k.by_ % 6 = c6
  have HRR := Lib.hid hr
  have HR6 := Lib.hid h6
  clear hr h6 ch2 HOC HOBJ hback hgo
  generalize hp.slots[12 + a].obj = x0 at *
  clear hsa
  generalize hq : ((r : Nat) : Int) = q at *
  have hrr := HR0.out
  subst hrr
  have hq' : q = 2 := by omega
  clear hq
  subst hq'
  obtain ⟨y1, y2, y3, HRY⟩ := gsX_open HG6.out hax
  have e0 := HRY.c0
  by_cases he : xs[a].weak = true
  · rw [he] at e0
    go_wp2_with fail
    refine bodyPost_ret (results_none rfl _ _ _) rfl ?_
    first | refine ⟨rfl, ⟨⟨#[]⟩, Fh, Fx, ?_⟩, KeepB.still HC6.out⟩ | refine ⟨rfl, ⟨#[]⟩, Fh, Fx, ?_, KeepB.still HC6.out⟩
    rw [← HM.out ⟨#[]⟩, joinM_none HAI.out HBI.out HCI.out HRR.out HR6.out (by rw [HGO.out]; rw [HGX.out]; simp [joinO, he])]
    exact HG6.out.fewer (fun j hj => by simp [hj])
  · have he' : xs[a].weak = false := by simpa using he
    rw [he'] at e0
    obtain ⟨p, cap, xs', Fs, Fr, c0, hopen, f0, hstay, hback⟩ := HOBH.out.fieldAppending objR_data (by show 0 < 10; decide)
    have m0 := cell_of_block (i := 0) HB136.out rfl
    have m1 := cell_of_block (i := 1) HB136.out rfl
    have m2 := cell_of_block (i := 2) HB136.out rfl
    have m3 := cell_of_block (i := 3) HB136.out rfl
    simp only [List.getElem_toArray, List.getElem_cons_zero, List.getElem_cons_succ] at m0 m1 m2 m3
    go_upto_region 17 with fail
    have hrowA := (hopen.row.alloc (.cells #[.int .i64 5, .int .i64 0, .string ⟨#[]⟩, .int .i64 hb_] 63)).drew
    have hchA := (Chg.alloc (fun _ => False) W6 (.cells #[.int .i64 5, .int .i64 0, .string ⟨#[]⟩, .int .i64 hb_] 63)).drewR
    have hgA : (W6.alloc (.cells #[.int .i64 5, .int .i64 0, .string ⟨#[]⟩, .int .i64 hb_] 63)).drew.heap[W6.heap.size]? = some (.cells [.int .i64 5, .int .i64 0, .string ⟨#[]⟩, .int .i64 hb_].toArray 63 (0, 0)) := alloc_block W6 _
    have HGA := Lib.hid hgA
    have HE := Lib.hid elem_val
    have HCA := Lib.hid hchA
    have c0A := hchA.cell c0
    have HST := Lib.hid hstay
    have HBA := Lib.hid hback
    have HLE := Lib.hid HOKO.out.data
    clear hgA hchA hstay hback hopen
    go_region_law
      ((refine step_append_elem (by rfl) _ _ _ (by rfl) 63 4 40 Try.underlying66 HE.out (by decide) _ x0.data.length xs'.flatten (by rfl) hrowA [.int .i64 5, .int .i64 0, .string ⟨#[]⟩, .int .i64 hb_] rfl W6.heap.size 63 (0, 0) (by rfl) HGA.out (by simp [Value.oneCell']) (by have := HLE.out; unfold maxLen; omega) (by have := HLE.out; omega) ?_; intro a2 n2 cp2 w2 hrow2 hchg2 hold2; have cc2 := (HST.out _ _ HCA.out hchg2).1; have f2 := (HST.out _ _ HCA.out hchg2).2))
    all_goals (
      have P9 := HBA.out _ _ _ _ [] _ HCA.out (refV_own _ hb_) (by simp) (by simp) hrow2 hchg2 hold2
      clear cc2 f2 hrow2 hchg2 hold2 HGA HE HCA HST HBA c0 c0A f0 hrowA m0 m1 m2 m3
      generalize w2.setCell ⟨gh', oh' + (12 + a) * 11 + 1 + 4, none⟩ (.slice a2 n2 cp2) = W9 at *
      go_upto_region 39 with fail
      obtain ⟨Fh', H9, hk9, hF9⟩ := HBK.out _ _ P9
      have f9 := gsX_frozen H9 hax (ox + a * 4 + 1)
      obtain ⟨v4, v5, v6, HR9⟩ := gsX_open H9 hax
      have x9 := HR9.c1
      obtain ⟨Fx', E1, E2⟩ := join_end hax HG5.out HG6.out HC6.out HC56.out HSO.out HBS.out H9 hk9 hF9
      have HE1 := Lib.hid E1
      have HE2 := Lib.hid E2
      clear E1 E2 H9 hk9 hF9 HR9 P9
      go_wp2_with fail
      go_end0
      refine ⟨rfl, ⟨⟨#[]⟩, Fh', Fx', ?_⟩, HE2.out⟩
      rw [← HM.out ⟨#[]⟩, joinM_some HAI.out HBI.out HCI.out HRR.out HR6.out (y := { x0 with data := x0.data ++ [refV hb_] }) (by rw [HGO.out, HLB.out, HGX.out]; simp [joinO, he']), HGX.out]
      exact HE1.out)
end Go.Proofs.Ythiiehanlconeaa
