/-
  The law's join, a link of sort 6.
-/
import Derived.Test.YthiiehanlconeaaJoi
import Derived.Test.YthiiehanlconeaaHeldT
namespace Go.Proofs.Ythiiehanlconeaa
open Go.RowKit
set_option linter.unusedVariables false
set_option linter.unusedSimpArgs false

set_option maxHeartbeats 12800000 in
set_option maxRecDepth 100000 in
theorem join_arm6 (w0 w : World) (bh : Nat) (hp : Hp) (vl vx : Value) (n : Nat) (L : List Int) (xs : List RObj) (Fh Fx B : List Nat) (k : Lk) (H : GS w0 w bh hp vx xs Fh Fx B) (hL : RowAt w 3 1 vl L.length (intC L)) (hB : ∀ b, vl.ownBlock = some b → b ∈ B)
    (ok : GOk n L hp xs) (hk : LkOk k) (hob : ∀ s (h : s < hp.slots.length), ObjOk hp.slots[s].obj) (hxo : ∀ x ∈ xs, x.strong.length ≤ 1000 ∧ x.keys.length ≤ 1000 ∧ x.vals.length ≤ 1000) (hr0 : k.sort % 7 = 6) :
    Calls Try.prog 26 #[.pointer (some ⟨bh, 0, none⟩), vl, vx, .agg #[.int .u8 (k.frm : Int), .int .u8 (k.sort : Int), .int .u8 (k.to_ : Int), .int .u8 (k.by_ : Int)]] w
      fun e w' => e = .returned (.tuple #[]) ∧ ∃ key Fh' Fx', GS w0 w' bh (joinM key n L hp xs k).1 vx (joinM key n L hp xs k).2 Fh' Fx' B ∧ KeepB B w w' := by
  have HR0 := Lib.hid hr0
  clear hr0
  have hLn : L.length = n := by rw [ok.L]; simp
  obtain ⟨gl, ol, cl, rfl, -, -⟩ := hL.addr (by rw [hLn]; exact ok.pos)
  have ha : k.frm % n < n := Nat.mod_lt _ ok.pos
  have hb : k.to_ % n < n := Nat.mod_lt _ ok.pos
  have hc : k.by_ % n < n := Nat.mod_lt _ ok.pos
  have z0 : ((n : Int) == 0) = false := beq_false_of_ne (by have := ok.pos; omega)
  have z1 : ¬ n = 0 := by have := ok.pos; omega
  have z2 : ¬ (n : Int) = 0 := by omega
  have tf := tmod_nat k.frm n
  have tt := tmod_nat k.to_ n
  have tb := tmod_nat k.by_ n
  have wf : IntKind.i64.wrap (k.frm : Int) = (k.frm : Int) := IntWalk.i64_in _ (by have := hk.frm; omega)
  have wt : IntKind.i64.wrap (k.to_ : Int) = (k.to_ : Int) := IntWalk.i64_in _ (by have := hk.to_; omega)
  have wb : IntKind.i64.wrap (k.by_ : Int) = (k.by_ : Int) := IntWalk.i64_in _ (by have := hk.by_; omega)
  have hcL : ∀ i, i < n → w.cell? ⟨gl, ol + i, none⟩ = some (.int .i64 (L.getD i 0)) := fun i hi => hL.cellAt i _ (by rw [List.getD_eq_getElem?_getD, List.getElem?_eq_getElem (show i < L.length by rw [hLn]; exact hi)]; simp [intC, hLn, hi])
  have HCL := Lib.hid hcL
  rw [hLn] at *
  generalize hM : (fun key => joinM key n L hp xs k) = M
  have hM' : ∀ key, joinM key n L hp xs k = M key := fun key => by rw [← hM]
  simp only [hM']
  have HM := Lib.hid hM'
  clear hM hM' hLn
  generalize hai : k.frm % n = a at *
  generalize hbi : k.to_ % n = b at *
  generalize hci : k.by_ % n = c at *
  have HAI := Lib.hid hai
  have HBI := Lib.hid hbi
  have HCI := Lib.hid hci
  have HH := Lib.hid H
  have HOK := Lib.hid ok
  have HLK := Lib.hid hk
  have HOB := Lib.hid hob
  have HXO := Lib.hid hxo
  have HLR := Lib.hid hL
  have hB1 := Lib.hid hB
  clear H ok hk hob hxo hL hB hcL hai hbi hci
  go_enter Try.func26, Try.ntmps26
  go_upto_region 2 with fail
  have HG1 := Lib.hid (HH.out.alloc (.cells #[.int .u8 (k.frm : Int), .int .u8 (k.sort : Int), .int .u8 (k.to_ : Int), .int .u8 (k.by_ : Int)] 86))
  have HC1 := Lib.hid (Chg.alloc (fun _ => False) w (.cells #[.int .u8 (k.frm : Int), .int .u8 (k.sort : Int), .int .u8 (k.to_ : Int), .int .u8 (k.by_ : Int)] 86))
  have hk7 := alloc_block w (.cells #[.int .u8 (k.frm : Int), .int .u8 (k.sort : Int), .int .u8 (k.to_ : Int), .int .u8 (k.by_ : Int)] 86)
  have k70 := cell_of_block (i := 0) hk7 rfl
  have k72 := cell_of_block (i := 2) hk7 rfl
  have k73 := cell_of_block (i := 3) hk7 rfl
  simp only [List.getElem_toArray, List.getElem_cons_zero, List.getElem_cons_succ] at k70 k72 k73
  have HK7 := Lib.hid hk7
  clear hk7
  generalize w.alloc (.cells #[.int .u8 (k.frm : Int), .int .u8 (k.sort : Int), .int .u8 (k.to_ : Int), .int .u8 (k.by_ : Int)] 86) = w1 at *
  generalize w.heap.size = b7 at *
  go_cut [9, 10, 11] from 9 to 244 (fun u9 u10 u11 wx => u9 = .int .i64 (a : Int) ∧ u10 = .int .i64 (b : Int) ∧ u11 = .int .i64 (c : Int) ∧ Hid (Chg (fun _ => False) w1 wx))
  case first =>
    go_quiet (fail)
    all_goals (
      go_wp2_with fail
      go_meet
      exact ⟨rfl, rfl, rfl, Lib.hid (Chg.drewN _ _ _)⟩)
  case rest =>
  obtain ⟨rfl, rfl, rfl, HCX⟩ := hcut
  clear k70 k72 k73 tf tt tb wf wt wb z0 z1 z2
  have HG2 := Lib.hid (HG1.out.still HCX.out)
  have HC2 := Lib.hid (HC1.out.trans' HCX.out)
  have HK72 := Lib.hid (HCX.out.keep HK7.out (fun x => x))
  clear HG1 HC1 HK7 HCX
  -- the object
  have hsa : 12 + a < hp.slots.length := by rw [HOK.out.slots]; omega
  have hax : a < xs.length := by rw [HOK.out.xs]; exact ha
  have hga : L.getD a 0 = handleM hp.base hp.stride ((12 + a : Nat) : Int) := by rw [HOK.out.L, List.getD_eq_getElem?_getD, List.getElem?_map, List.getElem?_range ha]; rfl
  have hso : slotOf hp (L.getD a 0) = some (12 + a) := by
    rw [hga]
    exact slotOf_handle hsa (by rw [List.getD_eq_getElem?_getD, List.getElem?_eq_getElem hsa]; exact HOK.out.used _ hsa) (by rw [HOK.out.slots]; have := HOK.out.few; omega)
  have hin : -9223372036854775808 ≤ L.getD a 0 ∧ L.getD a 0 ≤ 9223372036854775807 := by
    have := handle_in hp.base hp.stride (i := 12 + a) (by have := HOK.out.few; omega)
    rw [hga]; omega
  have ca := HC2.out.cell (HCL.out a ha)
  have cb := HC2.out.cell (HCL.out b hb)
  obtain ⟨gh, oh, kh, ch2, Go_, HOBJ, hback⟩ := gsObj HG2.out hsa
  have HAT := Lib.hid (hat_any wc bh 0 hp Fh (L.getD a 0) _ HG2.out.heap.here (by rw [Nat.zero_add]; exact ch2) hin)
  rw [hso] at HAT
  rw [show objPtr (.slice (some ⟨gh, oh, none⟩) hp.slots.length kh) (some (12 + a)) = some ⟨gh, oh + (12 + a) * 11 + 1, none⟩ from rfl] at HAT
  have CH2 := Lib.hid ch2
  clear hga hso hin hback HOBJ ch2
  have ia0 : (0 : Int) ≤ (a : Int) := by omega
  have ia1 : (a : Int) < (n : Int) := by omega
  have ib0 : (0 : Int) ≤ (b : Int) := by omega
  have ib1 : (b : Int) < (n : Int) := by omega
  generalize hlb : L.getD b 0 = hb_ at *
  have HLB := Lib.hid hlb
  clear hlb
  obtain ⟨gx, ox, cx, rfl, v1, v2, v3, HRC⟩ := roOpen HG2.out.x hax
  obtain ⟨as_, cs_, rfl, -⟩ := HRC.r1.slice
  have HRCH := Lib.hid HRC
  have HRF := Lib.hid (fun W => vref_any hb_ W)
  have HSL : Hid (xs[a].strong.length ≤ 1000) := Lib.hid (HXO.out _ (List.getElem_mem hax)).1
  have ix1 : (a : Int) < (xs.length : Int) := by omega
  clear HRC
  go_upto_region 5 with (first
    | (go_at_call 25; refine HAT.out.mono ?_; rintro e wa ⟨rfl, hca⟩; have cb := hca.cell cb)
    | (go_at_call 17; refine (HRF.out _).mono ?_; rintro e wr ⟨rfl, hcr⟩))
  have hc5 := ((hca.trans' hcr).allocR (.cells #[.int .i64 5, .int .i64 0, .string ⟨#[]⟩, .int .i64 hb_] 63))
  have HB13 := Lib.hid (alloc_block wr (.cells #[.int .i64 5, .int .i64 0, .string ⟨#[]⟩, .int .i64 hb_] 63))
  have CH5 := Lib.hid (hc5.cell CH2.out)
  have HG5 := Lib.hid (((HG2.out.still (hca.trans' hcr)).alloc (.cells #[.int .i64 5, .int .i64 0, .string ⟨#[]⟩, .int .i64 hb_] 63)))
  have HC5 := Lib.hid (HC2.out.trans' hc5)
  have HK75 := Lib.hid (hc5.keep HK72.out (fun x => x))
  have HRC5 := Lib.hid (HRCH.out.still hc5)
  clear hca hcr ca cb hc5 HG2 HC2 HK72 HRCH HAT HRF ib1
  generalize wr.alloc (.cells #[.int .i64 5, .int .i64 0, .string ⟨#[]⟩, .int .i64 hb_] 63) = W5 at *
  generalize wr.heap.size = b13 at *
  have x1 := HRC5.out.c1
  have HO0 : Hid (OutI W5 (W5.alloc (.cells #[] 3)) (.slice (some ⟨W5.heap.size, 0, none⟩) 0 0) []) := Lib.hid ⟨RowAt.lit [] rfl (by simp [maxLen]), fun k hk => by simp [Value.ownBlock] at hk; omega, Chg.alloc _ _ _⟩
  have HR1 : Hid (RowAt (W5.alloc (.cells #[] 3)) 3 1 (.slice as_ xs[a].strong.length cs_) (natI xs[a].strong).length (intC (natI xs[a].strong))) := Lib.hid (by rw [natI_len]; exact HRC5.out.r1.alloc _)
  have x1' := (Chg.alloc (fun _ => False) W5 (.cells #[] 3)).cell x1
  go_upto_region 6 with (first
    | (at_builtin; refine wpList_out rfl (.tmp 44) (.tmp 49) rfl _ [] rfl HO0.out _ (natI xs[a].strong) rfl HR1.out (⟨by have := HSL.out; rw [natI_len]; simp; omega⟩ : Few _) ?_; intro q1 q2 q3 W51 HO1 hch1 hold1; have HO1' := Lib.hid (HO1.alloc (.cells #[.int .i64 (b : Int)] 3)); clear HO0)
    | (at_builtin; refine wpList_out rfl (.tmp 50) (.tmp 52) rfl _ ([] ++ natI xs[a].strong) rfl HO1'.out _ [(b : Int)] rfl (RowAt.lit [.int .i64 (b : Int)] rfl (by simp [maxLen])) (⟨by have := HSL.out; rw [List.length_append, natI_len]; simp; omega⟩ : Few _) ?_; intro q4 q5 q6 W6 HO2 hch2 hold2))
  clear x1 x1' HO1 HO1' hch1 hold1 hch2 hold2 HR1
  have hll : ([] ++ natI xs[a].strong ++ [(b : Int)]) = natI (xs[a].strong ++ [b]) := by simp [natI]
  rw [hll] at HO2
  obtain ⟨bs, os, cs6, hv, -, -⟩ := HO2.row.addr (by rw [natI_len, List.length_append]; simp)
  cases hv
  have HBS : Hid (W5.heap.size ≤ bs) := Lib.hid (HO2.lo bs rfl)
  have HSO : Hid ((natR.row 3).own W6 [.slice (some ⟨bs, os, none⟩) (natI (xs[a].strong ++ [b])).length q6] (xs[a].strong ++ [b]) [bs]) := Lib.hid (by
    have hr := HO2.row
    have e : intC (natI (xs[a].strong ++ [b])) = (xs[a].strong ++ [b]).flatMap fun n : Nat => [Value.int .i64 (n : Int)] := by rw [flatMap_one]; unfold intC natI; rw [List.map_map]; rfl
    rw [e, natI_len] at hr
    have := ofRow_flat (n := 1) (f := fun n : Nat => [Value.int .i64 (n : Int)]) (hf := fun _ => rfl) (l := xs[a].strong ++ [b]) hr
    rw [natI_len]
    exact this)
  have HG6 := Lib.hid (HG5.out.more HO2.chg HBS.out (HO2.row.lt bs rfl))
  have HC6 := Lib.hid (HC5.out.trans' HO2.chg)
  have HC56 := Lib.hid HO2.chg
  have HK76 := Lib.hid (HO2.chg.keep HK75.out (fun x => x))
  have HB136 := Lib.hid (HO2.chg.keep HB13.out (fun x => x))
  clear HO2 hll HB13 HK75 HRC5 HC5
  rw [natI_len] at *
  generalize hsl : (xs[a].strong ++ [b]).length = sl at *
  clear hsl
  obtain ⟨gh', oh', kh', ch2, Gx, HOBJ, hback⟩ := gsObj HG6.out hsa
  have HAT2 : gh' = gh ∧ oh' = oh := by
    rw [HC56.out.cell CH5.out] at ch2
    cases ch2
    exact ⟨rfl, rfl⟩
  obtain ⟨rfl, rfl⟩ := HAT2
  obtain ⟨vp, ve, vd, vs, HOC⟩ := objOpen HOBJ
  have HOCH := Lib.hid HOC
  have HOBH := Lib.hid HOBJ
  have HBK := Lib.hid hback
  have HOKO := Lib.hid (HOB.out _ hsa)
  have hgo : (hp.slots.getD (12 + a) noSlt).obj = hp.slots[12 + a].obj := by rw [getD_get hsa]
  have HGO := Lib.hid hgo
  have HGX : Hid (xs.getD a noR = xs[a]) := Lib.hid (getD_get hax)
  have k71 := cell_of_block (i := 1) HK76.out rfl
  simp only [List.getElem_toArray, List.getElem_cons_zero, List.getElem_cons_succ] at k71
  have ts : ((k.sort : Int)).tmod 7 = ((k.sort % 7 : Nat) : Int) := tmod_nat k.sort 7
  have hr7 : k.sort % 7 < 7 := Nat.mod_lt _ (by omega)
  generalize hr : k.sort % 7 = r at *
  generalize h6 : k.by_ % 6 = c6
  have HRR := Lib.hid hr
  have HR6 := Lib.hid h6
  clear hr h6 ch2 HOC HOBJ hback hgo
  generalize hp.slots[12 + a].obj = x0 at *
  clear hsa
  generalize hq : ((r : Nat) : Int) = q at *
  have hrr := HR0.out
  subst hrr
  have hq' : q = 6 := by omega
  clear hq
  subst hq'
  obtain ⟨y1, y2, y3, HRY⟩ := gsX_open HG6.out hax
  have e0 := HRY.c0
  obtain ⟨ak, ck, rfl, -⟩ := HRY.r2.slice
  by_cases he : xs[a].weak = false
  · rw [he] at e0
    go_wp2_with fail
    refine bodyPost_ret (results_none rfl _ _ _) rfl ?_
    first | refine ⟨rfl, ⟨⟨#[]⟩, Fh, Fx, ?_⟩, KeepB.still HC6.out⟩ | refine ⟨rfl, ⟨#[]⟩, Fh, Fx, ?_, KeepB.still HC6.out⟩
    rw [← HM.out ⟨#[]⟩, joinM_none HAI.out HBI.out HCI.out HRR.out HR6.out (by rw [HGO.out]; rw [HGX.out]; simp [joinO, he])]
    exact HG6.out.fewer (fun j hj => by simp [hj])
  · have he' : xs[a].weak = true := by simpa using he
    rw [he'] at e0
    by_cases hm : c ∈ xs[a].keys
    · have HHAS : Hid (Calls Try.prog 24 #[.slice ak xs[a].keys.length ck, .int .i64 (c : Int)] W6 fun e w' => e = .returned (.bool true) ∧ W6 = w') := Lib.hid (by
        refine (rhas_any W6 _ (natI xs[a].keys) (c : Int) (by rw [natI_len]; exact HRY.r2) ⟨by have := (HXO.out _ (List.getElem_mem hax)).2.1; rw [natI_len]; omega⟩).mono ?_
        rintro e w' ⟨rfl, rfl⟩
        exact ⟨by rw [show decide ((c : Int) ∈ natI xs[a].keys) = true from by simp [mem_natJ, hm]], rfl⟩)
      have e2 := HRY.c2
      clear HRY
      go_wp2_with (go_at_call 24; refine HHAS.out.mono ?_; rintro e wh ⟨rfl, rfl⟩)
      refine bodyPost_ret (results_none rfl _ _ _) rfl ?_
      first | refine ⟨rfl, ⟨⟨#[]⟩, Fh, Fx, ?_⟩, KeepB.still HC6.out⟩ | refine ⟨rfl, ⟨#[]⟩, Fh, Fx, ?_, KeepB.still HC6.out⟩
      rw [← HM.out ⟨#[]⟩, joinM_none HAI.out HBI.out HCI.out HRR.out HR6.out (by rw [HGO.out]; rw [HGX.out]; simp [joinO, hm])]
      exact HG6.out.fewer (fun j hj => by simp [hj])
    · have HHAS : Hid (Calls Try.prog 24 #[.slice ak xs[a].keys.length ck, .int .i64 (c : Int)] W6 fun e w' => e = .returned (.bool false) ∧ W6 = w') := Lib.hid (by
        refine (rhas_any W6 _ (natI xs[a].keys) (c : Int) (by rw [natI_len]; exact HRY.r2) ⟨by have := (HXO.out _ (List.getElem_mem hax)).2.1; rw [natI_len]; omega⟩).mono ?_
        rintro e w' ⟨rfl, rfl⟩
        exact ⟨by rw [show decide ((c : Int) ∈ natI xs[a].keys) = false from by simp [mem_natJ, hm]], rfl⟩)
      have e2 := HRY.c2
      clear HRY
      obtain ⟨p, cap, xs', Fs, Fr, c0, hopen, f0, hstay, hback⟩ := HOBH.out.fieldAppendingAll objR_data (by show 0 < 10; decide)
      have m0 := cell_of_block (i := 0) HB136.out rfl
      have m1 := cell_of_block (i := 1) HB136.out rfl
      have m2 := cell_of_block (i := 2) HB136.out rfl
      have m3 := cell_of_block (i := 3) HB136.out rfl
      simp only [List.getElem_toArray, List.getElem_cons_zero, List.getElem_cons_succ] at m0 m1 m2 m3
      have cc6 := HC6.out.cell (HCL.out c hc)
      generalize hlc : L.getD c 0 = hc_ at *
      have HLC := Lib.hid hlc
      clear hlc
      have ic0 : (0 : Int) ≤ (c : Int) := by omega
      have ic1 : (c : Int) < (n : Int) := by omega
      have HRF2 := Lib.hid (fun W => vref_any hc_ W)
      go_upto_region 8 with (go_at_call 24; refine HHAS.out.mono ?_; rintro e wh ⟨rfl, rfl⟩)
      go_cut [14] from 57 to 244 (fun u14 wx => u14 = .slice (some ⟨bs, os, none⟩) sl q6 ∧ Hid (Post objR W6 gh' (oh' + (12 + a) * 11 + 1) { x0 with data := x0.data ++ [refV hc_, refV hb_] } Gx wx))
      case first =>
        have HOPN := Lib.hid hopen
        have HE := Lib.hid elem_val
        have HST := Lib.hid hstay
        have HBA := Lib.hid hback
        have HLE := Lib.hid HOKO.out.data
        have hdj : ∀ j, (Value.slice p x0.data.length cap).ownBlock = some j → j ∈ Fh := fun j hj => gsObjIn HG6.out (show 12 + a < hp.slots.length by rw [HOK.out.slots]; omega) (HC56.out.cell CH5.out) objR_data c0 hj
        have HN1 : Hid (¬ (Value.slice p x0.data.length cap).ownBlock = some gl) := Lib.hid (fun hj => (HG6.out.bs gl (by simp [hB1.out gl rfl])).2.1 (hdj _ hj))
        have HN2 : Hid (¬ (Value.slice p x0.data.length cap).ownBlock = some b13) := Lib.hid (fun hj => (HG6.out.bs b13 (by simp)).2.1 (hdj _ hj))
        clear hdj
        have HS0 : Hid (W6.cell? ⟨gh', oh' + (12 + a) * 11 + 1 + 4, none⟩ = some (.slice p x0.data.length cap) ∧ W6.cell? ⟨gl, ol + c, none⟩ = some (.int .i64 hc_) ∧ W6.cell? ⟨b13, 0, none⟩ = some (.int .i64 5) ∧ W6.cell? ⟨b13, 1, none⟩ = some (.int .i64 0) ∧ W6.cell? ⟨b13, 2, none⟩ = some (.string ⟨#[]⟩) ∧ W6.cell? ⟨b13, 3, none⟩ = some (.int .i64 hb_)) := Lib.hid ⟨c0, cc6, m0, m1, m2, m3⟩
        clear hstay hback hopen c0 cc6 m0 m1 m2 m3
        refine wp_region_held_split 15 (fun w' => w'.cell? ⟨gh', oh' + (12 + a) * 11 + 1 + 4, none⟩ = some (.slice p x0.data.length cap) ∧ w'.cell? ⟨gl, ol + c, none⟩ = some (.int .i64 hc_) ∧ w'.cell? ⟨b13, 0, none⟩ = some (.int .i64 5) ∧ w'.cell? ⟨b13, 1, none⟩ = some (.int .i64 0) ∧ w'.cell? ⟨b13, 2, none⟩ = some (.string ⟨#[]⟩) ∧ w'.cell? ⟨b13, 3, none⟩ = some (.int .i64 hb_)) (by kernel_rfl) (by kernel_rfl) ?_ (fun hHeld => ?_)
        · (first | exact HS0.out | exact HKS.out _ (Chg.refl _ _) | exact HKS.out _ HCD.out | exact HKS.out _ (HCD.out.allocR _) | exact ⟨cc2, hchg2.cellS (HKS.out _ (HCD.out.allocR _)).2.1 HN1.out, hchg2.cellS (HKS.out _ (HCD.out.allocR _)).2.2.1 HN2.out, hchg2.cellS (HKS.out _ (HCD.out.allocR _)).2.2.2.1 HN2.out, hchg2.cellS (HKS.out _ (HCD.out.allocR _)).2.2.2.2.1 HN2.out, hchg2.cellS (HKS.out _ (HCD.out.allocR _)).2.2.2.2.2 HN2.out⟩)
        simp only [List.take_succ_cons, List.take_zero]
        have HKS : Hid (∀ W, Chg (fun _ => False) W6.drew W → W.cell? ⟨gh', oh' + (12 + a) * 11 + 1 + 4, none⟩ = some (.slice p x0.data.length cap) ∧ W.cell? ⟨gl, ol + c, none⟩ = some (.int .i64 hc_) ∧ W.cell? ⟨b13, 0, none⟩ = some (.int .i64 5) ∧ W.cell? ⟨b13, 1, none⟩ = some (.int .i64 0) ∧ W.cell? ⟨b13, 2, none⟩ = some (.string ⟨#[]⟩) ∧ W.cell? ⟨b13, 3, none⟩ = some (.int .i64 hb_)) := Lib.hid (fun W hc => ⟨hc.cell HS0.out.1, hc.cell HS0.out.2.1, hc.cell HS0.out.2.2.1, hc.cell HS0.out.2.2.2.1, hc.cell HS0.out.2.2.2.2.1, hc.cell HS0.out.2.2.2.2.2⟩)
        have HRA : Hid (∀ W, Chg (fun _ => False) W6.drew W → RowAt W 63 4 (.slice p x0.data.length cap) x0.data.length xs'.flatten) := Lib.hid (fun W hc => (HOPN.out.row.drew).chg hc (fun _ _ x => x))
        have HWD : Hid (Chg (fun _ => False) W6 W6.drew) := Lib.hid (Chg.refl _ W6).drewR
        generalize W6.drew = wD at *
        refine wpAnyH_take (i := 0) (v := ?_) rfl (by kernel_rfl) (by kernel_rfl) (by kernel_rfl) (fun _ _ _ h => h) (Or.inl ⟨by rfl, ?_⟩) (by assumption) ?_
        rotate_left
        · (intro wq hSw; (try dsimp only at hSw); go_simp; (try with_reducible rfl))
        simp only [Act.put, List.getElem_toArray, List.getElem_cons_zero, List.getElem_cons_succ, List.setIfInBounds_toArray, List.set_cons_zero, List.set_cons_succ]
        refine wpAnyH_take (i := 1) (v := ?_) rfl (by kernel_rfl) (by kernel_rfl) (by kernel_rfl) (fun _ _ _ h => h) (Or.inl ⟨by rfl, ?_⟩) (by assumption) ?_
        rotate_left
        · (intro wq hSw; (try dsimp only at hSw); go_simp; (try with_reducible rfl))
        simp only [Act.put, List.getElem_toArray, List.getElem_cons_zero, List.getElem_cons_succ, List.setIfInBounds_toArray, List.set_cons_zero, List.set_cons_succ]
        refine wpAnyH_take (i := 2) (v := ?_) rfl (by kernel_rfl) (by kernel_rfl) (by kernel_rfl) (fun _ _ _ h => h) (Or.inl ⟨by rfl, ?_⟩) (by assumption) ?_
        rotate_left
        · (intro wq hSw; (try dsimp only at hSw); go_simp; (try with_reducible rfl))
        simp only [Act.put, List.getElem_toArray, List.getElem_cons_zero, List.getElem_cons_succ, List.setIfInBounds_toArray, List.set_cons_zero, List.set_cons_succ]
        refine wpAnyH_take (i := 3) (v := ?_) rfl (by kernel_rfl) (by kernel_rfl) (by kernel_rfl) (fun _ _ _ h => h) (Or.inl ⟨by rfl, ?_⟩) (by assumption) ?_
        rotate_left
        · (intro wq hSw; (try dsimp only at hSw); go_simp; (try with_reducible rfl))
        simp only [Act.put, List.getElem_toArray, List.getElem_cons_zero, List.getElem_cons_succ, List.setIfInBounds_toArray, List.set_cons_zero, List.set_cons_succ]
        refine wpAnyH_take (i := 4) (v := ?_) rfl (by kernel_rfl) (by kernel_rfl) (by kernel_rfl) (fun _ _ _ h => h) (Or.inl ⟨by rfl, ?_⟩) (by assumption) ?_
        rotate_left
        · (intro wq hSw; (try dsimp only at hSw); go_simp; (try with_reducible rfl))
        simp only [Act.put, List.getElem_toArray, List.getElem_cons_zero, List.getElem_cons_succ, List.setIfInBounds_toArray, List.set_cons_zero, List.set_cons_succ]
        refine wpAnyH_take (i := 5) (v := ?_) rfl (by kernel_rfl) (by kernel_rfl) (by kernel_rfl) (fun _ _ _ h => h) (Or.inl ⟨by rfl, ?_⟩) (by assumption) ?_
        rotate_left
        · (intro wq hSw; (try dsimp only at hSw); go_simp; (try with_reducible rfl))
        simp only [Act.put, List.getElem_toArray, List.getElem_cons_zero, List.getElem_cons_succ, List.setIfInBounds_toArray, List.set_cons_zero, List.set_cons_succ]
        refine wpAnyH_take (i := 6) (v := ?_) rfl (by kernel_rfl) (by kernel_rfl) (by kernel_rfl) (fun _ _ _ h => h) (Or.inl ⟨by rfl, ?_⟩) (by assumption) ?_
        rotate_left
        · (intro wq hSw; (try dsimp only at hSw); go_simp; (try with_reducible rfl))
        simp only [Act.put, List.getElem_toArray, List.getElem_cons_zero, List.getElem_cons_succ, List.setIfInBounds_toArray, List.set_cons_zero, List.set_cons_succ]
        refine wpAnyH_take (i := 7) (v := ?_) rfl (by kernel_rfl) (by kernel_rfl) (by kernel_rfl) (fun _ _ _ h => h) (Or.inl ⟨by rfl, ?_⟩) (by assumption) ?_
        rotate_left
        · (intro wq hSw; (try dsimp only at hSw); go_simp; (try with_reducible rfl))
        simp only [Act.put, List.getElem_toArray, List.getElem_cons_zero, List.getElem_cons_succ, List.setIfInBounds_toArray, List.set_cons_zero, List.set_cons_succ]
        refine wpAnyH_take (i := 8) (v := ?_) rfl (by kernel_rfl) (by kernel_rfl) (by kernel_rfl) (fun _ _ _ h => h) (Or.inl ⟨by rfl, ?_⟩) (by assumption) ?_
        rotate_left
        · (intro wq hSw; (try dsimp only at hSw); go_simp; (try with_reducible rfl))
        simp only [Act.put, List.getElem_toArray, List.getElem_cons_zero, List.getElem_cons_succ, List.setIfInBounds_toArray, List.set_cons_zero, List.set_cons_succ]
        refine wpAnyH_take (i := 10) (v := ?_) rfl (by kernel_rfl) (by kernel_rfl) (by kernel_rfl) (fun _ _ _ h => h) (Or.inl ⟨by rfl, ?_⟩) (by assumption) ?_
        rotate_left
        · (intro wq hSw; (try dsimp only at hSw); go_simp; (try with_reducible rfl))
        simp only [Act.put, List.getElem_toArray, List.getElem_cons_zero, List.getElem_cons_succ, List.setIfInBounds_toArray, List.set_cons_zero, List.set_cons_succ]
        refine wpAnyH_ready (rs := [9]) (by kernel_rfl) (by simp) ?_
        refine AllReadyH.cons (by simp only [List.getElem?_toArray, List.getElem?_cons_succ, List.getElem?_cons_zero]; rfl) (fun K hK => ?_) AllReadyH.nil
        (first
          | (go_simp; go_at_call 17; refine (HRF2.out _).mono ?_; rintro _ wd ⟨rfl, hcd⟩; have HCD := Lib.hid hcd; clear hcd; go_simp)
          | (refine step_append_elems 2 (by decide) (by rfl) _ _ _ (by rfl) 63 4 40 Try.underlying66 HE.out (by decide) _ x0.data.length xs'.flatten (by rfl) (HRA.out _ (HCD.out.allocR (.cells #[.int .i64 5, .int .i64 0, .string ⟨#[]⟩, .int .i64 hc_, .int .i64 5, .int .i64 0, .string ⟨#[]⟩, .int .i64 hb_] 63))) [.int .i64 5, .int .i64 0, .string ⟨#[]⟩, .int .i64 hc_, .int .i64 5, .int .i64 0, .string ⟨#[]⟩, .int .i64 hb_] rfl wd.heap.size 63 (0, 0) (by rfl) (alloc_block wd _) (by simp [Value.oneCell']) (by have := HLE.out; unfold maxLen; omega) (by have := HLE.out; omega) ?_; intro a2 n2 cp2 w2 hrow2 hchg2 hold2; have cc2 := (HST.out _ _ (HWD.out.trans' (HCD.out.allocR (.cells #[.int .i64 5, .int .i64 0, .string ⟨#[]⟩, .int .i64 hc_, .int .i64 5, .int .i64 0, .string ⟨#[]⟩, .int .i64 hb_] 63))) hchg2).1; have f2 := (HST.out _ _ (HWD.out.trans' (HCD.out.allocR (.cells #[.int .i64 5, .int .i64 0, .string ⟨#[]⟩, .int .i64 hc_, .int .i64 5, .int .i64 0, .string ⟨#[]⟩, .int .i64 hb_] 63))) hchg2).2))
        refine hK.out _ _ ?_ (fun hHeld => ?_)
        · (first | exact HS0.out | exact HKS.out _ (Chg.refl _ _) | exact HKS.out _ HCD.out | exact HKS.out _ (HCD.out.allocR _) | exact ⟨cc2, hchg2.cellS (HKS.out _ (HCD.out.allocR _)).2.1 HN1.out, hchg2.cellS (HKS.out _ (HCD.out.allocR _)).2.2.1 HN2.out, hchg2.cellS (HKS.out _ (HCD.out.allocR _)).2.2.2.1 HN2.out, hchg2.cellS (HKS.out _ (HCD.out.allocR _)).2.2.2.2.1 HN2.out, hchg2.cellS (HKS.out _ (HCD.out.allocR _)).2.2.2.2.2 HN2.out⟩)
        clear hK K
        (try simp only [Act.put, List.getElem_toArray, List.getElem_cons_zero, List.getElem_cons_succ, List.setIfInBounds_toArray, List.set_cons_zero, List.set_cons_succ])
        refine wpAnyH_ready (rs := [11]) (by kernel_rfl) (by simp) ?_
        refine AllReadyH.cons (by simp only [List.getElem?_toArray, List.getElem?_cons_succ, List.getElem?_cons_zero]; rfl) (fun K hK => ?_) AllReadyH.nil
        go_simp
        refine hK.out _ _ ?_ (fun hHeld => ?_)
        · (first | exact HS0.out | exact HKS.out _ (Chg.refl _ _) | exact HKS.out _ HCD.out | exact HKS.out _ (HCD.out.allocR _) | exact ⟨cc2, hchg2.cellS (HKS.out _ (HCD.out.allocR _)).2.1 HN1.out, hchg2.cellS (HKS.out _ (HCD.out.allocR _)).2.2.1 HN2.out, hchg2.cellS (HKS.out _ (HCD.out.allocR _)).2.2.2.1 HN2.out, hchg2.cellS (HKS.out _ (HCD.out.allocR _)).2.2.2.2.1 HN2.out, hchg2.cellS (HKS.out _ (HCD.out.allocR _)).2.2.2.2.2 HN2.out⟩)
        clear hK K
        (try simp only [Act.put, List.getElem_toArray, List.getElem_cons_zero, List.getElem_cons_succ, List.setIfInBounds_toArray, List.set_cons_zero, List.set_cons_succ])
        refine wpAnyH_ready (rs := [12]) (by kernel_rfl) (by simp) ?_
        refine AllReadyH.cons (by simp only [List.getElem?_toArray, List.getElem?_cons_succ, List.getElem?_cons_zero]; rfl) (fun K hK => ?_) AllReadyH.nil
        (first
          | (go_simp; go_at_call 17; refine (HRF2.out _).mono ?_; rintro _ wd ⟨rfl, hcd⟩; have HCD := Lib.hid hcd; clear hcd; go_simp)
          | (refine step_append_elems 2 (by decide) (by rfl) _ _ _ (by rfl) 63 4 40 Try.underlying66 HE.out (by decide) _ x0.data.length xs'.flatten (by rfl) (HRA.out _ (HCD.out.allocR (.cells #[.int .i64 5, .int .i64 0, .string ⟨#[]⟩, .int .i64 hc_, .int .i64 5, .int .i64 0, .string ⟨#[]⟩, .int .i64 hb_] 63))) [.int .i64 5, .int .i64 0, .string ⟨#[]⟩, .int .i64 hc_, .int .i64 5, .int .i64 0, .string ⟨#[]⟩, .int .i64 hb_] rfl wd.heap.size 63 (0, 0) (by rfl) (alloc_block wd _) (by simp [Value.oneCell']) (by have := HLE.out; unfold maxLen; omega) (by have := HLE.out; omega) ?_; intro a2 n2 cp2 w2 hrow2 hchg2 hold2; have cc2 := (HST.out _ _ (HWD.out.trans' (HCD.out.allocR (.cells #[.int .i64 5, .int .i64 0, .string ⟨#[]⟩, .int .i64 hc_, .int .i64 5, .int .i64 0, .string ⟨#[]⟩, .int .i64 hb_] 63))) hchg2).1; have f2 := (HST.out _ _ (HWD.out.trans' (HCD.out.allocR (.cells #[.int .i64 5, .int .i64 0, .string ⟨#[]⟩, .int .i64 hc_, .int .i64 5, .int .i64 0, .string ⟨#[]⟩, .int .i64 hb_] 63))) hchg2).2))
        refine hK.out _ _ ?_ (fun hHeld => ?_)
        · (first | exact HS0.out | exact HKS.out _ (Chg.refl _ _) | exact HKS.out _ HCD.out | exact HKS.out _ (HCD.out.allocR _) | exact ⟨cc2, hchg2.cellS (HKS.out _ (HCD.out.allocR _)).2.1 HN1.out, hchg2.cellS (HKS.out _ (HCD.out.allocR _)).2.2.1 HN2.out, hchg2.cellS (HKS.out _ (HCD.out.allocR _)).2.2.2.1 HN2.out, hchg2.cellS (HKS.out _ (HCD.out.allocR _)).2.2.2.2.1 HN2.out, hchg2.cellS (HKS.out _ (HCD.out.allocR _)).2.2.2.2.2 HN2.out⟩)
        clear hK K
        (try simp only [Act.put, List.getElem_toArray, List.getElem_cons_zero, List.getElem_cons_succ, List.setIfInBounds_toArray, List.set_cons_zero, List.set_cons_succ])
        refine wpAnyH_take (i := 13) (v := ?_) rfl (by kernel_rfl) (by kernel_rfl) (by kernel_rfl) (fun _ _ _ h => h) (Or.inl ⟨by rfl, ?_⟩) (by assumption) ?_
        rotate_left
        · (intro wq hSw; (try dsimp only at hSw); go_simp; (try with_reducible rfl))
        simp only [Act.put, List.getElem_toArray, List.getElem_cons_zero, List.getElem_cons_succ, List.setIfInBounds_toArray, List.set_cons_zero, List.set_cons_succ]
        refine wpAnyH_take (i := 14) (v := ?_) rfl (by kernel_rfl) (by kernel_rfl) (by kernel_rfl) (fun _ _ _ h => h) (Or.inl ⟨by rfl, ?_⟩) (by assumption) ?_
        rotate_left
        · (intro wq hSw; (try dsimp only at hSw); go_simp; (try with_reducible rfl))
        simp only [Act.put, List.getElem_toArray, List.getElem_cons_zero, List.getElem_cons_succ, List.setIfInBounds_toArray, List.set_cons_zero, List.set_cons_succ]
        refine wpAnyH_done (by kernel_rfl) ?_ _
        change wpList _ _ _ _ _ _
        simp only [List.drop_succ_cons, List.drop_zero]
        have P9 := HBA.out _ _ [[.int .i64 5, .int .i64 0, .string ⟨#[]⟩, .int .i64 hc_], [.int .i64 5, .int .i64 0, .string ⟨#[]⟩, .int .i64 hb_]] [refV hc_, refV hb_] [[], []] _ (HWD.out.trans' (HCD.out.allocR (.cells #[.int .i64 5, .int .i64 0, .string ⟨#[]⟩, .int .i64 hc_, .int .i64 5, .int .i64 0, .string ⟨#[]⟩, .int .i64 hb_] 63))) (.cons (refV_own _ hc_) (.cons (refV_own _ hb_) .nil)) (by simp) (by simp) hrow2 hchg2 hold2
        go_wp2_with fail
        go_meet
        exact ⟨rfl, Lib.hid P9⟩
      case rest =>
      obtain ⟨rfl, HP9⟩ := hcut
      as_aux_lemma =>
        have P9 := HP9.out
        clear hstay hback hopen c0 f0 m0 m1 m2 m3 cc6 HP9
        generalize wc = W9 at *
        obtain ⟨Fh', H9, hk9, hF9⟩ := HBK.out _ _ P9
        have HG9 := Lib.hid H9
        have HK9 := Lib.hid hk9
        clear H9 hk9 hF9 P9
        obtain ⟨y4, y5, y6, HRZ⟩ := gsX_open HG9.out hax
        obtain ⟨ak, ck, hvk, -⟩ := HRZ.r2.slice
        have x2 := HRZ.c2
        rw [hvk] at x2
        have HO0 : Hid (OutI W9 (W9.alloc (.cells #[] 3)) (.slice (some ⟨W9.heap.size, 0, none⟩) 0 0) []) := Lib.hid ⟨RowAt.lit [] rfl (by simp [maxLen]), fun k hk => by simp [Value.ownBlock] at hk; omega, Chg.alloc _ _ _⟩
        have HR1 : Hid (RowAt (W9.alloc (.cells #[] 3)) 3 1 (.slice ak xs[a].keys.length ck) (natI xs[a].keys).length (intC (natI xs[a].keys))) := Lib.hid (by rw [natI_len, ← hvk]; exact HRZ.r2.alloc _)
        have x2' := (Chg.alloc (fun _ => False) W9 (.cells #[] 3)).cell x2
        clear HRZ hvk
        go_upto_region 10 with (first
          | (at_builtin; refine wpList_out rfl (.tmp 89) (.tmp 94) rfl _ [] rfl HO0.out _ (natI xs[a].keys) rfl HR1.out (⟨by have := (HXO.out _ (List.getElem_mem hax)).2.1; rw [natI_len]; simp; omega⟩ : Few _) ?_; intro q1 q2 q3 Wa HO1 hch1 hold1; have HO1' := Lib.hid (HO1.alloc (.cells #[.int .i64 (c : Int)] 3)); clear HO0)
          | (at_builtin; refine wpList_out rfl (.tmp 95) (.tmp 97) rfl _ ([] ++ natI xs[a].keys) rfl HO1'.out _ [(c : Int)] rfl (RowAt.lit [.int .i64 (c : Int)] rfl (by simp [maxLen])) (⟨by have := (HXO.out _ (List.getElem_mem hax)).2.1; rw [List.length_append, natI_len]; simp; omega⟩ : Few _) ?_; intro r1 r2 r3 Wb HO2 hch2 hold2; have f2 := gsX_frozen (HG9.out.still HO2.chg) hax (ox + a * 4 + 2); obtain ⟨z4, z5, z6, HRZ2⟩ := gsX_open (HG9.out.still HO2.chg) hax; have x3 := HRZ2.c2))
        have hll : ([] ++ natI xs[a].keys ++ [(c : Int)]) = natI (xs[a].keys ++ [c]) := by simp [natI]
        rw [hll] at HO2
        obtain ⟨bk, ok_, ck2, hvk2, hown, hlo⟩ := out_own HO2 (by simp)
        rw [hvk2] at hown
        obtain ⟨Fx_HKa, G2, K2⟩ := gsX_set robjR_keys HG9.out hax HO2.chg hown hlo
        rw [hvk2] at *
        have HGa := Lib.hid G2
        have HKa := Lib.hid K2
        clear G2 K2 hown hlo HO2 hll x2 x2' x3 f2 HRZ2 HO1 HO1' hch1 hold1 hch2 hold2 HR1 hvk2
        generalize Wb.setCell ⟨gx, ox + a * 4 + 2, none⟩ (.slice (some ⟨bk, ok_, none⟩) (xs[a].keys ++ [c]).length ck2) = W10 at *
        generalize hxy : xs.set a { xs[a] with keys := xs[a].keys ++ [c] } = ys at *
        have hay : a < ys.length := by rw [← hxy, List.length_set]; exact hax
        have hya : ys[a] = { xs[a] with keys := xs[a].keys ++ [c] } := by subst hxy; rw [List.getElem_set_self]
        have HXY := Lib.hid hxy
        have HYA := Lib.hid hya
        have HCAP : Hid (ys[a].vals.length ≤ 1000) := Lib.hid (by rw [hya]; exact (HXO.out _ (List.getElem_mem hax)).2.2)
        clear hxy hya
        obtain ⟨y4, y5, y6, HRZ⟩ := gsX_open HGa.out hay
        obtain ⟨ak, ck, hvk, -⟩ := HRZ.r3.slice
        have x2 := HRZ.c3
        rw [hvk] at x2
        have HO0 : Hid (OutI W10 (W10.alloc (.cells #[] 3)) (.slice (some ⟨W10.heap.size, 0, none⟩) 0 0) []) := Lib.hid ⟨RowAt.lit [] rfl (by simp [maxLen]), fun k hk => by simp [Value.ownBlock] at hk; omega, Chg.alloc _ _ _⟩
        have HR1 : Hid (RowAt (W10.alloc (.cells #[] 3)) 3 1 (.slice ak ys[a].vals.length ck) (natI ys[a].vals).length (intC (natI ys[a].vals))) := Lib.hid (by rw [natI_len, ← hvk]; exact HRZ.r3.alloc _)
        have x2' := (Chg.alloc (fun _ => False) W10 (.cells #[] 3)).cell x2
        clear HRZ hvk
        go_wp2_with (first
          | (at_builtin; refine wpList_out rfl (.tmp 103) (.tmp 108) rfl _ [] rfl HO0.out _ (natI ys[a].vals) rfl HR1.out (⟨by have := HCAP.out; rw [natI_len]; simp; omega⟩ : Few _) ?_; intro q1 q2 q3 Wa HO1 hch1 hold1; have HO1' := Lib.hid (HO1.alloc (.cells #[.int .i64 (b : Int)] 3)); clear HO0)
          | (at_builtin; refine wpList_out rfl (.tmp 109) (.tmp 111) rfl _ ([] ++ natI ys[a].vals) rfl HO1'.out _ [(b : Int)] rfl (RowAt.lit [.int .i64 (b : Int)] rfl (by simp [maxLen])) (⟨by have := HCAP.out; rw [List.length_append, natI_len]; simp; omega⟩ : Few _) ?_; intro r1 r2 r3 Wb HO2 hch2 hold2; have f2 := gsX_frozen (HGa.out.still HO2.chg) hay (ox + a * 4 + 3); obtain ⟨z4, z5, z6, HRZ2⟩ := gsX_open (HGa.out.still HO2.chg) hay; have x3 := HRZ2.c3))
        have hll : ([] ++ natI ys[a].vals ++ [(b : Int)]) = natI (ys[a].vals ++ [b]) := by simp [natI]
        rw [hll] at HO2
        obtain ⟨bk, ok_, ck2, hvk2, hown, hlo⟩ := out_own HO2 (by simp)
        rw [hvk2] at hown
        obtain ⟨Fx_HKb, G2, K2⟩ := gsX_set robjR_vals HGa.out hay HO2.chg hown hlo
        rw [hvk2] at *
        have HGb := Lib.hid G2
        have HKb := Lib.hid K2
        clear G2 K2 hown hlo HO2 hll x2 x2' x3 f2 HRZ2 HO1 HO1' hch1 hold1 hch2 hold2 HR1 hvk2
        generalize Wb.setCell ⟨gx, ox + a * 4 + 3, none⟩ (.slice (some ⟨bk, ok_, none⟩) (ys[a].vals ++ [b]).length ck2) = W11 at *
        go_wp2_with fail
        refine bodyPost_ret (results_none rfl _ _ _) rfl ?_
        refine ⟨rfl, ⟨⟨#[]⟩, Fh', Fx_HKb, ?_⟩, ((KeepB.still HC6.out).trans ((HG6.out.keepB HK9.out).sub (fun j hj => by simp [hj]))).trans ((HKa.out.sub (fun j hj => by simp [hj])).trans (HKb.out.sub (fun j hj => by simp [hj])))⟩
        rw [← HM.out ⟨#[]⟩, joinM_some HAI.out HBI.out HCI.out HRR.out HR6.out (y := { x0 with data := x0.data ++ [refV hc_, refV hb_] }) (by rw [HGO.out, HLB.out, HLC.out, HGX.out]; simp [joinO, he', hm]), HGX.out]
        have h := HGb.out
        rw [HYA.out, ← HXY.out, List.set_set] at h
        exact h.fewer (fun j hj => by simp [hj])
end Go.Proofs.Ythiiehanlconeaa
