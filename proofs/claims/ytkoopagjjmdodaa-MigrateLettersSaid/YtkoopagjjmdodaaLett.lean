/-
  MigrateLetters: a page that travels through machines has, wherever it runs, the letter with which it was handed over last; for all sizes, losses and orders.
-/
import Derived.Test.YtkoopagjjmdodaaLaw
import Derived.Test.YtkoopagjjmdodaaArgsM
import Derived.Test.YtkoopagjjmdodaaPlk
import Derived.Test.YtkoopagjjmdodaaText
import Derived.Test.YtkoopagjjmdodaaHany
import Derived.Test.YtkoopagjjmdodaaLater
namespace Go.Proofs.Ytkoopagjjmdodaa
set_option linter.unusedVariables false
set_option linter.unusedSimpArgs false
open Go.ChangeShapes Go.WideShapes Go.ChangeAt Go.RowKit
open Go.ChangeMaps (open_string shut_string)

set_option maxHeartbeats 12800000 in
set_option maxRecDepth 100000 in
theorem migrateLetters_ok (v v2 : Value) (xs zs : List Int) (w : World) (hrow : ArgRow w v (xs.map (Value.int .u16))) (hx : ∀ z ∈ xs, 0 ≤ z ∧ z ≤ 65535) (hrow2 : ArgRow w v2 (zs.map (Value.int .u8))) (hz : ∀ z ∈ zs, 0 ≤ z ∧ z ≤ 255) (hL : ¬ 6 < xs.length) (hM : ¬ 60 < zs.length) :
    Calls Try.prog 6 #[v, v2] w fun e w' => e = .returned (.bool true) ∧ Below w.heap.size w w' := by
  obtain ⟨a, cap, rfl, -⟩ := id hrow
  obtain ⟨a2, cap2, rfl, -⟩ := id hrow2
  rw [List.length_map] at *
  have HAR := Lib.hid hrow
  have HAR2 := Lib.hid hrow2
  have HX := Lib.hid hx
  have HZ := Lib.hid hz
  have HL := Lib.hid hL
  have HM := Lib.hid hM
  have hd1 : decide ((6 : Int) < (xs.length : Int)) = false := by simp; omega
  have hd2 : decide ((60 : Int) < (zs.length : Int)) = false := by simp; omega
  have hxl : (xs.length : Int) ≤ 9223372036854775807 := by omega
  have hzl : (zs.length : Int) ≤ 9223372036854775807 := by omega
  clear hrow hrow2 hx hz hL hM
  go_enter Try.func6, Try.ntmps6
  go_wp2_with fail
  refine (awake_any w).mono ?_
  rintro e w1 ⟨rfl, hc1⟩
  go_wp2_with fail
  refine (newWorld_any w1).mono ?_
  rintro e w2 ⟨b, F2, rfl, O2⟩
  have O2 := O2.from hc1
  have HO2 : Hid (∃ F, Own wdR w w2 b 0 wd0 F) := Lib.hid ⟨F2, O2⟩
  have hst := LB.start
  have HST := Lib.hid hst
  clear O2 hc1 hst
  go_upto_region 4 with fail
  clear hd1 hd2
  go_wp2_with fail
  go_loopw [6, 7, 8] (fun s6 s7 s8 wr => ∃ (i at_ n : Nat) (d : Wd), i ≤ xs.length ∧ n ≤ zs.length ∧ at_ < 3 ∧ s8 = .int .i64 i ∧ s6 = .int .i64 at_ ∧ s7 = .int .i64 n ∧ Hid (∃ F, Own wdR w wr b 0 d F) ∧ Hid (LB i at_ d)) (fun _ _ s8 _ => xs.length - (intOf s8).toNat)
  case atStart => exact ⟨0, 0, 0, wd0, Nat.zero_le _, Nat.zero_le _, by omega, rfl, rfl, rfl, HO2, HST⟩
  case round =>
    obtain ⟨i, at_, n, d, hi, hn, hat, rfl, rfl, rfl, HO, HB⟩ := hrel
    have i0 : (0 : Int) ≤ (i : Int) := Int.natCast_nonneg _
    have a0 : (0 : Int) ≤ (at_ : Int) := Int.natCast_nonneg _
    have a1 : (at_ : Int) < 3 := by omega
    have i6 : (i : Int) ≤ 6 := by have := HL.out; omega
    clear HO2 HST
    by_cases hlt : i < xs.length
    · have i1 : (i : Int) < (xs.length : Int) := by omega
      obtain ⟨F1, O1⟩ := HO.out
      obtain ⟨ga, oa, rfl, hcx⟩ := argCell HAR.out O1.chg (k := i) (u := .int .u16 xs[i]) (by rw [List.getElem?_map, List.getElem?_eq_getElem hlt]; rfl)
      have hxb := HX.out xs[i] (List.getElem_mem hlt)
      generalize xs[i] = x at *
      obtain ⟨x0, x1⟩ := hxb
      have HLT := Lib.hid hlt
      have HN := Lib.hid hn
      have HO1 := Lib.hid O1
      clear hlt hi hn HO O1
      go_wp2_with fail
      obtain ⟨nz, hnz⟩ : ∃ nz : Nat, x % 5000 = (nz : Int) := ⟨(x % 5000).toNat, by omega⟩
      have hnz5 : nz < 5000 := by omega
      rw [hnz]
      have HNZ := Lib.hid hnz5
      clear hnz hnz5 x0 x1
      refine (text_any nz i wr (by have := HNZ.out; omega) (by omega)).mono ?_
      rintro e w3 ⟨rfl, hc3⟩
      have HTX : Hid ((textB nz i).size < 5000) := Lib.hid (by rw [textB_size]; exact HNZ.out)
      have O3 := HO1.out.still hc3
      have HO3 := Lib.hid O3
      clear hc3 HO1 hcx O3
      generalize textB nz i = letter at *
      go_upto_region 10 with fail
      obtain ⟨to_, hto⟩ : ∃ to_ : Nat, ((at_ : Int) + 1 + (i : Int) % 2) % 3 = (to_ : Int) := ⟨(((at_ : Int) + 1 + (i : Int) % 2) % 3).toNat, by omega⟩
      have hto3 : to_ < 3 := by omega
      have htne : at_ ≠ to_ := by omega
      rw [hto]
      have t0 : (0 : Int) ≤ (to_ : Int) := Int.natCast_nonneg _
      have t1 : (to_ : Int) < 3 := by omega
      obtain ⟨hb1, hb2⟩ := HB.out.begin hto3 htne HTX.out
      have hbd := HB.out.bd
      have hho := hbd.host at_
      have hpu := hbd.put at_ (hand_in (page := ⟨#[112]⟩) (letter := letter) (dst := (to_ : Int)) (by decide) (by omega) (by have := HTX.out; omega) hho) (Nat.le_succ _) (Nat.zero_le _)
      obtain ⟨G3, HS3, -, hback⟩ := wdHost HO3.out.here at_ hat
      have hha := hand_any w3 b (at_ * 3) _ G3 ⟨#[112]⟩ letter (to_ : Int) HS3 (by have := HTX.out; omega) (fun s hs => ⟨by have := (hho.each s hs).lo; omega, by have := (hho.each s hs).hi; omega⟩) ⟨by have := hho.out; omega⟩
      rw [hb1] at hha
      generalize hdh : d.put at_ (handM (d.host at_) ⟨#[112]⟩ letter (to_ : Int)).2 = dh at *
      have HHA := Lib.hid hha
      have HBK := Lib.hid hback
      have HPU := Lib.hid hpu
      have HMD := Lib.hid hb2
      have HDH := Lib.hid hdh
      have HAT := Lib.hid hat
      have HTO := Lib.hid hto3
      clear hto htne hto3 hb1 hb2 hbd hho hpu hback hha hdh HS3 HB
      go_wp2_with fail
      refine HHA.out.mono ?_
      rintro e w4 ⟨rfl, hp4⟩
      have hp5 := (HBK.out _ _ hp4).1
      rw [HDH.out] at hp5
      obtain ⟨F4, H4, S4⟩ := hp5
      have O4 := HO3.out.step H4 S4
      have hcl := collect_any w4 b _ F4 H4 (HPU.out.collectOk (by omega))
      have HCL := Lib.hid hcl
      have HO4 := Lib.hid O4
      clear hp4 H4 S4 O4 hcl HBK HHA HO3 HDH HPU
      generalize collectM dh = d0 at *
      go_wp2_with fail
      refine HCL.out.mono ?_
      rintro e w5 ⟨rfl, F5, H5, S5⟩
      have O5 := HO4.out.step H5 S5
      obtain ⟨G5, HS5, -⟩ := wdHost O5.here at_ HAT.out
      have hrn := runs_any w5 b (at_ * 3) _ G5 ⟨#[112]⟩ HS5
      rw [HMD.out.still] at hrn
      have HRN := Lib.hid hrn
      have HO5 := Lib.hid O5
      clear H5 S5 O5 HS5 hrn HCL HO4
      go_wp2_with fail
      refine HRN.out.mono ?_
      rintro e w6 ⟨rfl, hc6⟩
      have HO6 : Hid (∃ F, Own wdR w w6 b 0 d0 F) := Lib.hid ⟨_, HO5.out.still hc6⟩
      have n60 : (zs.length : Int) ≤ 60 := by have := HM.out; omega
      clear hc6 HO5 HRN
      go_wp2_with fail
      go_loopw [7, 13] (fun s7 s13 wr => ∃ (k n : Nat) (d : Wd), k ≤ 8 ∧ n ≤ zs.length ∧ s13 = .int .i64 k ∧ s7 = .int .i64 n ∧ Hid (∃ F, Own wdR w wr b 0 d F) ∧ Hid (LM i at_ to_ letter k d)) (fun _ s13 _ => 8 - (intOf s13).toNat)
      case atStart => exact ⟨0, n, d0, by omega, HN.out, rfl, rfl, HO6, HMD⟩
      case round =>
        obtain ⟨k, n, d, hk, hn, rfl, rfl, HO, HMM⟩ := hrel
        have k0 : (0 : Int) ≤ (k : Int) := Int.natCast_nonneg _
        have n0 : (0 : Int) ≤ (n : Int) := Int.natCast_nonneg _
        clear HO6 HMD
        obtain ⟨F1, O1⟩ := HO.out
        obtain ⟨a9, cap9, c9, hrow9, hle9, hcap9, fz9⟩ := wayRow O1.here
        by_cases hq : k < 8 ∧ n < zs.length ∧ d.way ≠ []
        · obtain ⟨hk8, hn8, hwe⟩ := hq
          have k1 : (k : Int) < 8 := by omega
          have n1 : (n : Int) < (zs.length : Int) := by omega
          obtain ⟨gz, oz, rfl, hcz⟩ := argCell HAR2.out O1.chg (k := n) (u := .int .u8 zs[n]) (by rw [List.getElem?_map, List.getElem?_eq_getElem hn8]; rfl)
          have hgz : gz ≠ b := by
            obtain ⟨gz', oz', he, h7⟩ := argCell HAR2.out (Chg.refl _ w) (k := n) (u := .int .u8 zs[n]) (by rw [List.getElem?_map, List.getElem?_eq_getElem hn8]; rfl)
            cases he
            have h8 : gz < w.heap.size := World.block_lt_of_cell? w _ h7
            have h9 := O1.lo
            omega
          have HGZ := Lib.hid hgz
          clear hgz
          have hzb := HZ.out zs[n] (List.getElem_mem hn8)
          generalize zs[n] = z at *
          have hpos : 0 < d.way.length := List.length_pos_iff.2 hwe
          obtain ⟨g, off, cap3, hv, -, -⟩ := RowAt.addr hrow9 hpos
          cases hv
          obtain ⟨N, hN⟩ : ∃ N, d.way.length = N := ⟨_, rfl⟩
          obtain ⟨j, hj⟩ : ∃ j : Nat, z / 2 % (N : Int) = (j : Int) := ⟨(z / 2 % (N : Int)).toNat, by have := Int.emod_nonneg (z / 2) (show (N : Int) ≠ 0 by omega); omega⟩
          have hjN : j < N := by
            have := Int.emod_lt_of_pos (z / 2) (show 0 < (N : Int) by omega)
            omega
          rw [hN] at c9 hrow9 hle9
          have hN1 : (0 : Int) < (N : Int) := by omega
          have hN2 : (N : Int) ≤ 1000000000 := by have := HMM.out.bd.len; omega
          have l1 := Later.cell hcz
          have l2 := Later.cell c9
          have HO1 := Lib.hid O1
          have HROW := Lib.hid hrow9
          have HNN := Lib.hid hN
          have HJ := Lib.hid hj
          have HJN := Lib.hid hjN
          have HC9 := Lib.hid c9
          have HCZ := Lib.hid hcz
          have HK8 := Lib.hid hk8
          have HN8 := Lib.hid hn8
          obtain ⟨z1, z2⟩ := hzb
          unfold maxLen at hcap9
          clear hwe hpos hrow9 hN hj hjN O1 hcz fz9 hk8 hn8 hk hn
          go_upto_region 19 with fail
          clear c9
          refine wp_region_later (by kernel_rfl) (by kernel_rfl) ?_
          repeat (go_big_quiet_step (fail))
          refine wpQuiet_nil ?_
          rintro _ ⟨x, rfl⟩
          rw [HJ.out]
          clear l1 l2 z2
          have O2 := HO1.out.still x.chg
          have hr2 := HROW.out.chg x.chg (fun _ _ x => x)
          have c9 := x.chg.cell HC9.out
          have hcz := x.chg.cell HCZ.out
          have hjl : j < d.way.length := by rw [HNN.out]; exact HJN.out
          have hcell : ∀ (y : Nat) (u : Value), d.way[j].cells[y]? = some u → x.at_.cell? ⟨g, off + j * 8 + y, none⟩ = some u := fun y u hu => by
            have hy : y < 8 := by have := (List.getElem?_eq_some_iff.1 hu).1; rw [Msg.len] at this; exact this
            have := hr2.cellAt (j * 8 + y) u (by rw [flat_get Msg.cells 8 Msg.len d.way j y hjl hy]; exact hu)
            rw [← Nat.add_assoc] at this
            exact this
          obtain ⟨q1, q2, q3⟩ := HMM.out.deliver hjl
          have q4 := HMM.out.lose hjl
          have hmin := HMM.out.bd.ways _ (List.getElem_mem hjl)
          generalize hm : d.way[j] = m at *
          generalize x.at_ = w2 at *
          have b0 := hcell 0 _ rfl
          have b1 := hcell 1 _ rfl
          have b2 := hcell 2 _ rfl
          have b3 := hcell 3 _ rfl
          have b4 := hcell 4 _ rfl
          have b5 := hcell 5 _ rfl
          have b6 := hcell 6 _ rfl
          have b7 := hcell 7 _ rfl
          rw [Nat.add_zero] at b0
          have j0 : (0 : Int) ≤ (j : Int) := Int.natCast_nonneg _
          have j1 : (j : Int) < (N : Int) := by have := HJN.out; omega
          have HQ1 : Hid (0 ≤ m.dst ∧ m.dst < 3) := Lib.hid ⟨q1, q2⟩
          have HQ3 := Lib.hid q3
          have HQ4 := Lib.hid q4
          have HMIN := Lib.hid hmin
          have HR2 := Lib.hid hr2
          have HO2 := Lib.hid O2
          have HC92 := Lib.hid c9
          have HCZ2 := Lib.hid hcz
          clear hcell hr2 O2 hjl hm HO1 HROW HC9 HCZ hcz q1 q2 q3 q4 hmin
          go_upto_region 22 with fail
          have hbm := alloc_block w2 (.cells #[.int .i64 m.kind, .int .i64 m.frm, .int .i64 m.dst, .string m.page, .int .i64 m.epoch, .int .i64 m.index, .int .i64 m.count, .string m.data] 39)
          have hc1 := Chg.alloc (fun _ => False) w2 (.cells #[.int .i64 m.kind, .int .i64 m.frm, .int .i64 m.dst, .string m.page, .int .i64 m.epoch, .int .i64 m.index, .int .i64 m.count, .string m.data] 39)
          generalize hmb : w2.heap.size = mb at *
          generalize w2.alloc (.cells #[.int .i64 m.kind, .int .i64 m.frm, .int .i64 m.dst, .string m.page, .int .i64 m.epoch, .int .i64 m.index, .int .i64 m.count, .string m.data] 39) = w3 at *
          have O3 := HO2.out.still hc1
          have hr3 := HR2.out.chg hc1 (fun _ _ x => x)
          have d9 := hc1.cell HC92.out
          have hcz := hc1.cell HCZ2.out
          have hmbl : b < mb := by have := HO2.out.here.lt.1; omega
          have HMBL := Lib.hid hmbl
          have HO3 := Lib.hid O3
          have HR3 := Lib.hid hr3
          have HBM := Lib.hid hbm
          have HCZ3 := Lib.hid hcz
          clear hc1 hmb O3 hr3 hbm b0 b1 b2 b3 b4 b5 b6 b7 c9 HR2 HO2 HC92 HCZ2 hmbl hcz
          have hjN := HJN.out
          have ht1 := fun W => run_takeS (P := Try.prog) W 24 39 8 Try.underlying24 (Try.sizeOf39 W) (some ⟨g, off, none⟩) N cap9 (j : Int) (by omega) (by omega)
          have ht2 := fun W => run_reslS (P := Try.prog) W 24 39 8 Try.underlying24 (Try.sizeOf39 W) (some ⟨g, off, none⟩) N cap9 ((j : Int) + 1) (by omega) (by omega)
          rw [Int.toNat_natCast] at ht1
          rw [show ((j : Int) + 1).toNat = j + 1 by omega] at ht2
          have wj : IntKind.i64.wrap ((j : Int) + 1) = (j : Int) + 1 := IntWalk.i64_in _ (by omega)
          have hcA := (Chg.alloc (fun _ => False) w3 (.cells #[] 39)).drewR
          have hRA := HR3.out.chg hcA (fun _ _ x => x)
          have hX := hRA.prefix (m := j) (by omega)
          have hY := HR3.out.suffix (d := j + 1) (by omega)
          rw [cells_take _ _ (by rw [HNN.out]; omega)] at hX
          rw [cells_skip _ _ (by rw [HNN.out]; omega)] at hY
          generalize hres : reslS 8 (some ⟨g, off, none⟩) N cap9 (j + 1) = vr at *
          have hA := (RowAt.freshAt w3 39 8 w3.heap.size rfl).drew
          have HA := Lib.hid hA
          have HX2 := Lib.hid hX
          have HY := Lib.hid hY
          have HCA := Lib.hid hcA
          have HE := Lib.hid elem_msg
          have d9A := hcA.cell d9
          clear hA hX hY hRA hcA hres hjN
          go_region_law ((first
            | (refine step_append_rows (by rfl) (.tmp 117) (.tmp 123) 24 (by rfl) 39 8 80 Try.underlying24 HE.out (by decide) _ 0 [] (by rfl) HA.out _ j _ (by rfl) HX2.out (msg_ones _) (by have := HJN.out; unfold maxLen; omega) (by have := HJN.out; omega) ?_; intro a2 n2 c2 w4 hrow4 hch4 hold4; have hc4 := HCA.out.fresh hch4 (own_at (Nat.le_refl w3.heap.size)); rw [Nat.zero_add, List.nil_append] at hrow4; have hn4 := own_ge hold4 (own_at (Nat.le_refl w3.heap.size)) HCA.out.size; have d94 := hc4.cell d9)
            | (refine step_append_rows (by rfl) (.tmp 124) (.tmp 131) 24 (by rfl) 39 8 80 Try.underlying24 HE.out (by decide) _ j _ (by rfl) hrow4 _ (N - (j + 1)) _ (by rfl) (HY.out.chg hc4 (fun _ _ x => x)) (msg_ones _) (by have := HJN.out; unfold maxLen; omega) (by have := HJN.out; omega) ?_; intro a5 n5 c5 w5 hrow5 hch5 hold5; have hc5 := hc4.fresh hch5 hn4; have hn5 := own_ge hold5 hn4 hc4.size; have d95 := hc5.cell d9; obtain ⟨_, _, _, _, _, _, fz5⟩ := wayRow (HO3.out.here.still hc5))))
          all_goals (
            have hr6 := hrow5
            rw [show j + (N - (j + 1)) = (d.way.take j ++ d.way.drop (j + 1)).length by rw [List.length_append, List.length_take, List.length_drop, HNN.out, Nat.min_eq_left (by have := HJN.out; omega)], ← List.flatMap_append] at hr6
            obtain ⟨F6, k1, k2⟩ := wayNew HO3.out.here hc5 hr6 hn5
            have HFO := Lib.hid (HO3.out.step k1 k2)
            have hbq := setCell_other (b := b) (i := 9) (.slice a5 n5 c5) (hc5.keep HBM.out (fun x => x)) (by have := HMBL.out; omega)
            have hzc := (Chg.setCell w5 ⟨b, 9, none⟩ (.slice a5 n5 c5)).cellS (hc5.cell HCZ3.out) HGZ.out
            have HBQ := Lib.hid hbq
            have HZC := Lib.hid hzc
            clear hr6 k1 k2 hbq hzc hrow4 hrow5 hch4 hch5 hold4 hold5 hc4 hc5 hn4 hn5 d94 d95 fz5 d9A d9 ht1 ht2 HA HX2 HY HCA HE HR3 HBM HCZ3 HO3
            generalize w5.setCell ⟨b, 9, none⟩ (.slice a5 n5 c5) = w6 at *
            clear wj hN1 hN2 hle9 hcap9
            generalize hdl : ({ d with way := d.way.take j ++ d.way.drop (j + 1) } : Wd) = dl at *
            have HDL := Lib.hid hdl
            clear hdl
            have hz := HZC.out
            have nw : IntKind.i64.wrap ((n : Int) + 1 - 1) = (n : Int) := by rw [Int.add_sub_cancel]; exact IntWalk.i64_in _ (by omega)
            by_cases ho : z % 2 = 1
            · have ho1 : (z % 2 == 1) = true := by simpa using ho
              clear ho
              go_upto_if 141 with fail
              have hd := HQ1.out
              have hBl : WdB (2 + 2000 * i + k) (100000 + 3 * k) 0 dl := by
                rw [← HDL.out]
                exact HMM.out.bd.cut (by have := HMM.out.bd.len; rw [List.length_append, List.length_take, List.length_drop]; omega) (fun x hx => mem_cut hx)
              have hmin := HMIN.out
              have hrv : recvW dl m = dl.put m.dst.toNat (receiveM (dl.host m.dst.toNat) m) := by unfold recvW; rw [if_pos hd]
              have hBr := hBl.recv hmin
              have hlm := HQ3.out
              rw [hrv] at hBr hlm
              obtain ⟨hd1, hd2⟩ := hd
              obtain ⟨G7, HS7, -, hback⟩ := wdHost HFO.out.here.drew m.dst.toNat (by omega)
              have hrc := receive_any w6.drew b (m.dst.toNat * 3) _ G7 m HS7 (by have := hmin.page; omega) (by have := hmin.data; omega) ((hBl.host _).ok (by have := HK8.out; omega) (by omega))
              unfold Msg.cells at hrc
              have m0 : w6.cell? ⟨mb, 0, none⟩ = some (.int .i64 m.kind) := cell_of_block (i := 0) HBQ.out rfl
              have m1 : w6.cell? ⟨mb, 1, none⟩ = some (.int .i64 m.frm) := cell_of_block (i := 1) HBQ.out rfl
              have m2 : w6.cell? ⟨mb, 2, none⟩ = some (.int .i64 m.dst) := cell_of_block (i := 2) HBQ.out rfl
              have m3 : w6.cell? ⟨mb, 3, none⟩ = some (.string m.page) := cell_of_block (i := 3) HBQ.out rfl
              have m4 : w6.cell? ⟨mb, 4, none⟩ = some (.int .i64 m.epoch) := cell_of_block (i := 4) HBQ.out rfl
              have m5 : w6.cell? ⟨mb, 5, none⟩ = some (.int .i64 m.index) := cell_of_block (i := 5) HBQ.out rfl
              have m6 : w6.cell? ⟨mb, 6, none⟩ = some (.int .i64 m.count) := cell_of_block (i := 6) HBQ.out rfl
              have m7 : w6.cell? ⟨mb, 7, none⟩ = some (.string m.data) := cell_of_block (i := 7) HBQ.out rfl
              generalize hdr : dl.put m.dst.toNat (receiveM (dl.host m.dst.toNat) m) = dr at *
              have HRC := Lib.hid hrc
              have HBK2 := Lib.hid hback
              have HBR := Lib.hid hBr
              have HLM := Lib.hid hlm
              have HDR := Lib.hid hdr
              clear hBl hmin hrv hBr hlm hback hrc hdr HS7 hz HZC HQ1 HQ3 HQ4 HMIN HMM HDL HBQ nw
              go_wp2_with fail
              go_still_tail 7, (by kernel_rfl)
              change wpList _ _ _ _ _ w6.drew
              go_wp2_with fail
              refine HRC.out.mono ?_
              rintro e w7 ⟨rfl, hp7⟩
              have hp8 := (HBK2.out _ _ hp7).1
              rw [HDR.out] at hp8
              obtain ⟨F7, H7, S7⟩ := hp8
              have O7 := (HFO.out.still ((Chg.refl _ w6).drewR)).step H7 S7
              have hcl := collect_any w7 b _ F7 H7 (HBR.out.collectOk (by have := HK8.out; omega))
              have HCL7 := Lib.hid hcl
              have HO7 := Lib.hid O7
              clear hcl hp7 H7 S7 O7 HBK2 HRC HFO m0 m1 m2 m3 m4 m5 m6 m7
              go_wp2_with fail
              refine HCL7.out.mono ?_
              rintro e w8 ⟨rfl, F8, H8, S8⟩
              have HO8 : Hid (∃ F, Own wdR w w8 b 0 (collectM dr) F) := Lib.hid ⟨F8, HO7.out.step H8 S8⟩
              clear H8 S8 HCL7 HO7
              go_wp2_with fail
              go_roundw
              case rel => exact ⟨k + 1, n + 1, collectM dr, HK8.out, HN8.out, by go_num, by go_num, HO8, HLM⟩
              case measure => have := HK8.out; simp [intOf]; omega
            · have ho1 : (z % 2 == 1) = false := by simpa using ho
              clear ho
              have HOQ : Hid (∃ F, Own wdR w w6 b 0 dl F) := Lib.hid ⟨_, HFO.out⟩
              clear HFO HQ1 HQ3 HMIN HMM HDL HBQ
              go_wp2_with fail
              go_roundw
              case rel => exact ⟨k + 1, n + 1, dl, HK8.out, HN8.out, by go_num, by go_num, HOQ, HQ4⟩
              case measure => have := HK8.out; simp [intOf]; omega)
        · have HFIN := Lib.hid (HMM.out.final hk (by have := HL.out; have := HLT.out; omega) HTX.out)
          have HQU := Lib.hid (quiet_any wr b d F1 3 _ _ O1.here HMM.out.bd (by omega) (by have := HL.out; have := HLT.out; omega) (by omega))
          have HO1 := Lib.hid O1
          have HNK := Lib.hid hn
          have hcase : ¬ k < 8 ∨ (k < 8 ∧ ¬ n < zs.length) ∨ (k < 8 ∧ n < zs.length ∧ d.way = []) := by
            by_cases h1 : k < 8
            · by_cases h2 : n < zs.length
              · exact .inr (.inr ⟨h1, h2, Classical.byContradiction fun h => hq ⟨h1, h2, h⟩⟩)
              · exact .inr (.inl ⟨h1, h2⟩)
            · exact .inl h1
          clear hq HMM hrow9 hle9 hcap9 fz9 O1 HO hk hn
          rcases hcase with h1 | ⟨h1, h2⟩ | ⟨h1, h2, h3⟩
          · have k1 : ¬ (k : Int) < 8 := by omega
            clear c9 h1
            go_upto_region 26 with fail
            generalize quietM d 3 = dq at *
            go_wp2_with fail
            refine HQU.out.mono ?_
            rintro e w2 ⟨rfl, F2, H2, S2⟩
            have O2 := HO1.out.step H2 S2
            obtain ⟨f1, f2, f3⟩ := HFIN.out
            obtain ⟨G2, HS2, -⟩ := wdHost O2.here to_ HTO.out
            have hl2 := letter_any w2 b (to_ * 3) _ G2 ⟨#[112]⟩ HS2
            rw [f2] at hl2
            have HL2 := Lib.hid hl2
            have HO2 := Lib.hid O2
            have HF1 := Lib.hid f1
            have HF3 := Lib.hid f3
            clear H2 S2 O2 HS2 hl2 f1 f2 f3 HQU HFIN HO1
            go_wp2_with fail
            refine HL2.out.mono ?_
            rintro e w3 ⟨rfl, hc3⟩
            have O3 := HO2.out.still hc3
            obtain ⟨G3, HS3, -⟩ := wdHost O3.here to_ HTO.out
            have hr3 := runs_any w3 b (to_ * 3) _ G3 ⟨#[112]⟩ HS3
            rw [HF3.out] at hr3
            have HR3 := Lib.hid hr3
            have HO3 := Lib.hid O3
            clear hc3 O3 HS3 hr3 HL2 HO2 HF3
            go_wp2_with fail
            refine HR3.out.mono ?_
            rintro e w4 ⟨rfl, hc4⟩
            have HO4 : Hid (∃ F, Own wdR w w4 b 0 dq F) := Lib.hid ⟨_, HO3.out.still hc4⟩
            have hle1 : (letter.toList == letter.toList) = true := by simp
            clear hc4 HO3 HR3
            go_wp2_with fail
            go_roundw
            case rel => exact ⟨i + 1, to_, n, dq, HLT.out, HNK.out, HTO.out, by go_num, rfl, rfl, HO4, HF1⟩
            case measure => have := HLT.out; simp [intOf]; omega
          · have k1 : (k : Int) < 8 := by omega
            have k2 : ¬ (n : Int) < (zs.length : Int) := by omega
            clear c9 h1 h2
            go_upto_region 26 with fail
            generalize quietM d 3 = dq at *
            go_wp2_with fail
            refine HQU.out.mono ?_
            rintro e w2 ⟨rfl, F2, H2, S2⟩
            have O2 := HO1.out.step H2 S2
            obtain ⟨f1, f2, f3⟩ := HFIN.out
            obtain ⟨G2, HS2, -⟩ := wdHost O2.here to_ HTO.out
            have hl2 := letter_any w2 b (to_ * 3) _ G2 ⟨#[112]⟩ HS2
            rw [f2] at hl2
            have HL2 := Lib.hid hl2
            have HO2 := Lib.hid O2
            have HF1 := Lib.hid f1
            have HF3 := Lib.hid f3
            clear H2 S2 O2 HS2 hl2 f1 f2 f3 HQU HFIN HO1
            go_wp2_with fail
            refine HL2.out.mono ?_
            rintro e w3 ⟨rfl, hc3⟩
            have O3 := HO2.out.still hc3
            obtain ⟨G3, HS3, -⟩ := wdHost O3.here to_ HTO.out
            have hr3 := runs_any w3 b (to_ * 3) _ G3 ⟨#[112]⟩ HS3
            rw [HF3.out] at hr3
            have HR3 := Lib.hid hr3
            have HO3 := Lib.hid O3
            clear hc3 O3 HS3 hr3 HL2 HO2 HF3
            go_wp2_with fail
            refine HR3.out.mono ?_
            rintro e w4 ⟨rfl, hc4⟩
            have HO4 : Hid (∃ F, Own wdR w w4 b 0 dq F) := Lib.hid ⟨_, HO3.out.still hc4⟩
            have hle1 : (letter.toList == letter.toList) = true := by simp
            clear hc4 HO3 HR3
            go_wp2_with fail
            go_roundw
            case rel => exact ⟨i + 1, to_, n, dq, HLT.out, HNK.out, HTO.out, by go_num, rfl, rfl, HO4, HF1⟩
            case measure => have := HLT.out; simp [intOf]; omega
          · have k1 : (k : Int) < 8 := by omega
            have k2 : (n : Int) < (zs.length : Int) := by omega
            rw [h3] at c9
            simp only [List.length_nil] at c9
            clear h1 h2 h3
            go_upto_region 26 with fail
            clear c9
            generalize quietM d 3 = dq at *
            go_wp2_with fail
            refine HQU.out.mono ?_
            rintro e w2 ⟨rfl, F2, H2, S2⟩
            have O2 := HO1.out.step H2 S2
            obtain ⟨f1, f2, f3⟩ := HFIN.out
            obtain ⟨G2, HS2, -⟩ := wdHost O2.here to_ HTO.out
            have hl2 := letter_any w2 b (to_ * 3) _ G2 ⟨#[112]⟩ HS2
            rw [f2] at hl2
            have HL2 := Lib.hid hl2
            have HO2 := Lib.hid O2
            have HF1 := Lib.hid f1
            have HF3 := Lib.hid f3
            clear H2 S2 O2 HS2 hl2 f1 f2 f3 HQU HFIN HO1
            go_wp2_with fail
            refine HL2.out.mono ?_
            rintro e w3 ⟨rfl, hc3⟩
            have O3 := HO2.out.still hc3
            obtain ⟨G3, HS3, -⟩ := wdHost O3.here to_ HTO.out
            have hr3 := runs_any w3 b (to_ * 3) _ G3 ⟨#[112]⟩ HS3
            rw [HF3.out] at hr3
            have HR3 := Lib.hid hr3
            have HO3 := Lib.hid O3
            clear hc3 O3 HS3 hr3 HL2 HO2 HF3
            go_wp2_with fail
            refine HR3.out.mono ?_
            rintro e w4 ⟨rfl, hc4⟩
            have HO4 : Hid (∃ F, Own wdR w w4 b 0 dq F) := Lib.hid ⟨_, HO3.out.still hc4⟩
            have hle1 : (letter.toList == letter.toList) = true := by simp
            clear hc4 HO3 HR3
            go_wp2_with fail
            go_roundw
            case rel => exact ⟨i + 1, to_, n, dq, HLT.out, HNK.out, HTO.out, by go_num, rfl, rfl, HO4, HF1⟩
            case measure => have := HLT.out; simp [intOf]; omega
    · have hiL : i = xs.length := by omega
      obtain ⟨F1, O1⟩ := HO.out
      obtain ⟨G1, HS1, -⟩ := wdHost O1.here 1 (by omega)
      have hlt := letter_any wr b 3 _ G1 ⟨#[113]⟩ HS1
      rw [HB.out.other] at hlt
      have HLT := Lib.hid hlt
      have HO1 := Lib.hid O1
      have hx : ¬ (i : Int) < (xs.length : Int) := by omega
      clear hlt O1 HS1 HO HB hi hiL
      go_wp2_with fail
      refine HLT.out.mono ?_
      rintro e w2 ⟨rfl, hc2⟩
      have HC2 := Lib.hid (HO1.out.still hc2).chg
      clear hc2 HLT HO1
      go_wp2_with fail
      go_ret
      exact ⟨rfl, HC2.out.below (Nat.le_refl _) (fun _ h => h.elim)⟩
end Go.Proofs.Ytkoopagjjmdodaa
