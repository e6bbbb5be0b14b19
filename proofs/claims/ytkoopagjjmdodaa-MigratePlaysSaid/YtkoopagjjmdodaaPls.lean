/-
  MigratePlays: the walk.
-/
import Derived.Test.YtkoopagjjmdodaaDA
import Derived.Test.YtkoopagjjmdodaaWdo
import Derived.Test.YtkoopagjjmdodaaRB
import Derived.Test.YtkoopagjjmdodaaRC
import Derived.Test.YtkoopagjjmdodaaRfm
import Derived.Deep.CutRange
import Derived.Deep.CutBlock
namespace Go.Proofs.Ytkoopagjjmdodaa
open Go.ChangeShapes Go.WideShapes Go.ChangeAt Go.RowKit
set_option linter.unusedVariables false
set_option linter.unusedSimpArgs false

def refCells (k : Nat) : Array Value := #[.int .i64 0, .slice none 0 0, .slice none 0 0, .int .i64 (if 1 < k then 1 else 0), .slice none 0 0, .slice none 0 0, .int .i64 (if 2 < k then 2 else 0), .slice none 0 0, .slice none 0 0]
theorem refCells_set (k : Nat) (hk : k < 3) : (refCells k).setIfInBounds (k * 3) (.int .i64 k) = refCells (k + 1) := by
  match k, hk with
  | 0, _ => rfl
  | 1, _ => rfl
  | 2, _ => rfl
theorem refCells_get (k : Nat) (hk : k < 3) : (refCells k)[k * 3]? = some (.int .i64 0) := by
  match k, hk with
  | 0, _ => rfl
  | 1, _ => rfl
  | 2, _ => rfl
def ref0 : Wd := ⟨newHost 0, newHost 1, newHost 2, [], 0⟩

set_option maxHeartbeats 30000000 in
set_option maxRecDepth 100000 in
theorem migratePlays_ok (v : Value) (xs : List EvM) (w : World) (hrow : ArgRows w v 5 (xs.map EvM.cells)) (hx : ∀ z ∈ xs, z.Ok) (hL : ¬ 60 < xs.length) :
    Calls Try.prog 5 #[v] w fun e w' => e = .returned (.bool true) ∧ Below w.heap.size w w' := by
  obtain ⟨a, cap, rfl, -⟩ := id hrow
  rw [List.length_map] at *
  have HAR := Lib.hid hrow
  have HX := Lib.hid hx
  have HL := Lib.hid hL
  have hd1 : decide ((60 : Int) < (xs.length : Int)) = false := by simp; omega
  have hxl : (xs.length : Int) ≤ 60 := by omega
  clear hrow hx hL
  go_enter Try.func5, Try.ntmps5
  go_wp2_with fail
  refine (awake_any w).mono ?_
  rintro e w1 ⟨rfl, hc1⟩
  go_wp2_with fail
  refine (newWorld_any w1).mono ?_
  rintro e w2 ⟨bw, F2, rfl, O2⟩
  have O2 := O2.from hc1
  have HO2 := Lib.hid O2
  clear O2 hc1
  go_upto_region 5 with fail
  clear hd1
  have hbr := alloc_block w2 (.cells #[.int .i64 0, .slice none 0 0, .slice none 0 0, .int .i64 0, .slice none 0 0, .slice none 0 0, .int .i64 0, .slice none 0 0, .slice none 0 0] 50)
  have hcr := Chg.alloc (fun _ => False) w2 (.cells #[.int .i64 0, .slice none 0 0, .slice none 0 0, .int .i64 0, .slice none 0 0, .slice none 0 0, .int .i64 0, .slice none 0 0, .slice none 0 0] 50)
  generalize hbn : w2.heap.size = br at *
  generalize w2.alloc (.cells #[.int .i64 0, .slice none 0 0, .slice none 0 0, .int .i64 0, .slice none 0 0, .slice none 0 0, .int .i64 0, .slice none 0 0, .slice none 0 0] 50) = w3 at *
  have HB0 : Hid (∃ T, w3.heap[br]? = some (.cells (refCells 0) T (0, 0))) := Lib.hid ⟨_, hbr⟩
  have HC0 := Lib.hid hcr
  have HBN := Lib.hid hbn
  clear hbr hcr hbn
  go_wp2_with fail
  go_loopw [5] (fun s5 wr => ∃ k : Nat, k ≤ 3 ∧ s5 = .int .i64 k ∧ Hid (∃ T, wr.heap[br]? = some (.cells (refCells k) T (0, 0))) ∧ Hid (Chg (fun _ => False) w2 wr)) (fun s5 _ => 3 - (intOf s5).toNat)
  case atStart => exact ⟨0, by omega, rfl, HB0, HC0⟩
  case round =>
    obtain ⟨k, hk, rfl, HR, HC⟩ := hrel
    clear HB0 HC0
    by_cases hlt : k < 3
    · have k0 : (0 : Int) ≤ (k : Int) := Int.natCast_nonneg _
      have k1 : (k : Int) < 3 := by omega
      obtain ⟨T, hb⟩ := HR.out
      have z0 := cell_of_block hb (refCells_get k hlt)
      have fz := frozen_of_block (i := k * 3) hb
      have hs := setCell_block (i := k * 3) (.int .i64 k) hb
      rw [refCells_set k hlt] at hs
      have hch := HC.out.setCellR ⟨br, k * 3, none⟩ (.int .i64 k) (fun x => by have := HBN.out; simp at x; omega)
      have HS : Hid (∃ T, (wr.setCell ⟨br, k * 3, none⟩ (.int .i64 k)).heap[br]? = some (.cells (refCells (k + 1)) T (0, 0))) := Lib.hid ⟨T, hs⟩
      have HCH := Lib.hid hch
      clear hb hs hch HR HC
      go_upto_region 7 with fail
      generalize wr.setCell ⟨br, k * 3, none⟩ (.int .i64 k) = w4 at *
      clear z0 fz
      go_wp2_with fail
      go_roundw
      case rel => exact ⟨k + 1, by omega, by go_num, HS, HCH⟩
      case measure => simp [intOf]; omega
    · have hk3 : k = 3 := by omega
      subst hk3
      rw [show ((3 : Nat) : Int) = 3 from rfl]
      obtain ⟨T, hb⟩ := HR.out
      have O3 := HO2.out.still HC.out
      have hlo : w2.heap.size ≤ br := by have := HBN.out; omega
      have hown : Own triR w2 wr br 0 ref0 [] :=
        ⟨⟨⟨_, T, hb, ⟨_, _, _, _, _, _, _, _, _, [], [], [], rfl, newHost_own wr 0, newHost_own wr 1, newHost_own wr 2, rfl⟩⟩, by simp, by simp⟩, HC.out, hlo, by simp⟩
      have hlt2 := HO2.out.here.lt
      have H3 : Two w wr bw br wd0 ref0 (.slice none 0 0) [] := ⟨F2, [], O3, hown.from HO2.out.chg, (by have := hlt2.1; omega), (by simp), fun hx => (by have := hlt2.2 br hx; omega), fun k _ hx => (by cases hx), RowAt.nil _ _ _, fun k hk => (by cases hk), fun x hx => (by cases hx)⟩
      obtain ⟨G3, HS3, -, hback⟩ := H3.ref 0 (by omega)
      have HBK := Lib.hid hback
      have HH3 := Lib.hid H3
      clear hb O3 hown hlt2 H3 hback hlo hlt hk HR HC HBN HO2
      go_wp2_with fail
      refine (rstart_any wr br 0 (newHost 0) G3 ⟨#[112]⟩ HS3 (by decide) ⟨by decide⟩).mono ?_
      rintro e w4 ⟨rfl, hp⟩
      rw [startM_new 0 ⟨#[112]⟩ (by decide)] at hp ⊢
      have H4 := HBK.out _ _ hp
      obtain ⟨G4, HS4, -, hback⟩ := H4.ref 1 (by omega)
      have HBK4 := Lib.hid hback
      clear HS3 hp H4 hback HBK HH3
      go_wp2_with fail
      refine (rstart_any w4 br 3 (newHost 1) G4 ⟨#[113]⟩ HS4 (by decide) ⟨by decide⟩).mono ?_
      rintro e w5 ⟨rfl, hp⟩
      rw [startM_new 1 ⟨#[113]⟩ (by decide)] at hp ⊢
      have H5 : Two w w5 bw br wd0 wd0 (.slice none 0 0) [] := HBK4.out _ _ hp
      have HT5 := Lib.hid H5
      have HI5 := Lib.hid wd0_in
      clear HS4 hp H5 HBK4
      go_upto_region 12 with fail
      go_wp2_with fail
      go_loopw [6, 7] (fun s6 s7 wr => ∃ (i : Nat) (d : Wd), i ≤ xs.length ∧ s7 = .int .i64 i ∧ Hid (Two w wr bw br d d s6 []) ∧ Hid (d.n = (i : Int)) ∧ Hid (WdI (1 + i) (60000 * i) 0 d)) (fun _ s7 _ => xs.length - (intOf s7).toNat)
      case atStart => exact ⟨0, wd0, Nat.zero_le _, rfl, HT5, Lib.hid rfl, HI5⟩
      case round =>
        obtain ⟨i, d, hi, rfl, HT, HN, HI⟩ := hrel
        have i0 : (0 : Int) ≤ (i : Int) := Int.natCast_nonneg _
        clear HT5 HI5
        by_cases hlt : i < xs.length
        · have i1 : (i : Int) < (xs.length : Int) := by omega
          have hne : xs.map EvM.cells ≠ [] := by
            intro h
            have := congrArg List.length h
            rw [List.length_map] at this
            simp at this
            rw [this] at hlt
            simp at hlt
          obtain ⟨a2, cap2, he, -, -, h3⟩ := HAR.out.keep HT.out.chg
          obtain ⟨ga, oa, ha, hcell⟩ := h3 hne
          have he1 : a = a2 := by injection he
          have he2 : a = some ⟨ga, oa, none⟩ := he1.trans ha
          subst he2
          have hcl : ∀ (y : Nat) (u : Value), (xs[i]).cells[y]? = some u → wr.cell? ⟨ga, oa + i * 5 + y, none⟩ = some u := fun y u hu => hcell i y (xs[i]).cells u (by rw [List.getElem?_map, List.getElem?_eq_getElem hlt]; rfl) hu
          have ho := HX.out xs[i] (List.getElem_mem hlt)
          generalize xs[i] = o at *
          have b0 := hcl 0 _ rfl
          have b1 := hcl 1 _ rfl
          have b2 := hcl 2 _ rfl
          have b3 := hcl 3 _ rfl
          have b4 := hcl 4 _ rfl
          rw [Nat.add_zero] at b0
          have HO := Lib.hid ho
          have HLT := Lib.hid hlt
          clear hne he h3 ha he1 hcell hcl hlt ho hi
          have hbx := alloc_block wr (.cells #[.int .u8 o.kind, .int .u8 o.at_, .int .u8 o.to_, .int .u8 o.page, .int .u16 o.size] 53)
          have hT6 := HT.out.alloc (.cells #[.int .u8 o.kind, .int .u8 o.at_, .int .u8 o.to_, .int .u8 o.page, .int .u16 o.size] 53)
          go_upto_region 16 with fail
          clear b0 b1 b2 b3 b4
          generalize hobn : wr.heap.size = ob at *
          generalize wr.alloc (.cells #[.int .u8 o.kind, .int .u8 o.at_, .int .u8 o.to_, .int .u8 o.page, .int .u16 o.size] 53) = w6 at *
          have m0 : w6.cell? ⟨ob, 0, none⟩ = some (.int .u8 o.kind) := cell_of_block (i := 0) hbx rfl
          have m1 : w6.cell? ⟨ob, 1, none⟩ = some (.int .u8 o.at_) := cell_of_block (i := 1) hbx rfl
          have m3 : w6.cell? ⟨ob, 3, none⟩ = some (.int .u8 o.page) := cell_of_block (i := 3) hbx rfl
          have HT6 := Lib.hid hT6
          clear hbx hT6 HT hobn
          have o1 := HO.out.k
          have o2 := HO.out.a
          have k0 : (0 : Int) ≤ (o.kind : Int) := Int.natCast_nonneg _
          have a0 : (0 : Int) ≤ (o.at_ : Int) := Int.natCast_nonneg _
          have a1 : (o.at_ : Int) < 256 := by omega
          clear o1 o2
          go_wp2_with fail
          refine (rname_any o.page (by have := HO.out.p; omega) w6).mono ?_
          rintro e w7 ⟨rfl, hc7⟩
          have HT7 := Lib.hid (HT6.out.still hc7)
          have hb7 := HT7.out.block (List.mem_cons_self ..)
          have m0 : w7.cell? ⟨ob, 0, none⟩ = some (.int .u8 o.kind) := cell_of_block (i := 0) hb7 rfl
          clear hc7 HT6 m1 m3 hb7
          obtain ⟨q, hq⟩ : ∃ q : Nat, o.at_ % 3 = q := ⟨_, rfl⟩
          have hq2 : (o.at_ : Int) % 3 = (q : Int) := by omega
          have q0 : (0 : Int) ≤ (q : Int) := Int.natCast_nonneg _
          have q1 : (q : Int) < 3 := by omega
          have HQ := Lib.hid hq
          have HQL : Hid (q < 3) := Lib.hid (by omega)
          go_upto_region 20 with fail
          rw [hq2]
          clear hq hq2
          go_upto_block 4 with fail
          clear m0
          obtain ⟨d1, hd1⟩ : ∃ d1 : Wd, d1 = { d with n := (i : Int) + 1 } := ⟨_, rfl⟩
          have HD1 := Lib.hid hd1
          have HI1 : Hid (WdI (1 + i) (60000 * i) 0 d1) := Lib.hid (by rw [hd1]; exact HI.out.setN _)
          have HTT : Hid (Two w w7 bw br d d1 u6 [(ob, (.cells #[.int .u8 o.kind, .int .u8 o.at_, .int .u8 o.to_, .int .u8 o.page, .int .u16 o.size] 53))]) := Lib.hid (by rw [hd1]; exact HT7.out.rest _)
          clear hd1 HT7
          have HIL : Hid (i < 60) := Lib.hid (by have := HLT.out; have := HL.out; omega)
          go_cut [6, 11] from 62 to 138 (fun u6' u11' wx => u11' = .int .i64 (preM d1 o (i + 1)).1 ∧ Two w wx bw br d (preM d1 o (i + 1)).2 u6' [(ob, (.cells #[.int .u8 o.kind, .int .u8 o.at_, .int .u8 o.to_, .int .u8 o.page, .int .u16 o.size] 53))])
          case first =>
            have hcase : (o.kind : Int) % 7 = 0 ∨ (o.kind : Int) % 7 = 1 ∨ (o.kind : Int) % 7 = 2 ∨ (o.kind : Int) % 7 = 6 ∨ (o.kind : Int) % 7 = 3 ∨ (o.kind : Int) % 7 = 4 ∨ (o.kind : Int) % 7 = 5 := by omega
            generalize hr : (o.kind : Int) % 7 = r at *
            have HR := Lib.hid hr
            clear hr k0
            rcases hcase with rfl | rfl | rfl | rfl | h345
            ·
              have HPR : Hid (preM d1 o (i + 1) = ((handM (d1.host q) (nameB o.page) (textB (o.size % 3500) (i + 1)) (evDst o)).1, d1.put q (handM (d1.host q) (nameB o.page) (textB (o.size % 3500) (i + 1)) (evDst o)).2)) := Lib.hid (by
                have hk7 : o.kind % 7 = 0 := by have := HR.out; omega
                unfold preM callM
                rw [hk7, HQ.out]
                rfl)
              have hho := HI1.out.bd.host q
              obtain ⟨G3, HS3, -, hback⟩ := HTT.out.ref q HQL.out
              have HBK := Lib.hid hback
              clear hback
              have hha : ∀ W, Chg (fun _ => False) w7 W → Calls Try.prog 24 #[.pointer (some ⟨br, q * 3, none⟩), .string (nameB o.page), .string (textB (o.size % 3500) (i + 1)), .int .i64 ((o.to_ : Int) % 4 - 1 + (o.at_ : Int) % 2)] W fun e w' => e = .returned (.int .i64 (handM (d1.host q) (nameB o.page) (textB (o.size % 3500) (i + 1)) (evDst o)).1) ∧ HostPost w7 br (q * 3) (handM (d1.host q) (nameB o.page) (textB (o.size % 3500) (i + 1)) (evDst o)).2 G3 w' := fun W hc =>
                (rhand_any W br (q * 3) _ G3 (nameB o.page) (textB (o.size % 3500) (i + 1)) (evDst o) (HS3.still hc) (by rw [textB_size]; omega) (fun s hs => ⟨by have := (hho.each s hs).lo; omega, by have := (hho.each s hs).hi; have := HIL.out; omega⟩) ⟨by have := hho.seats; have := HIL.out; omega⟩ ⟨by have := hho.out; omega⟩).mono fun e w' x => ⟨x.1, x.2.pre hc⟩
              have htx : ∀ W, Calls Try.prog 25 #[.int .i64 ((o.size : Int) % 3500), .int .i64 ((i : Int) + 1)] W fun e w' => e = .returned (.string (textB (o.size % 3500) (i + 1))) ∧ Chg (fun _ => False) W w' := fun W => by
                have h := text_any (o.size % 3500) (i + 1) W (by omega) (by have := HIL.out; omega)
                rw [show ((o.size % 3500 : Nat) : Int) = (o.size : Int) % 3500 by omega, show ((i + 1 : Nat) : Int) = (i : Int) + 1 by omega] at h
                exact h
              have s0 : (0 : Int) ≤ (o.size : Int) := Int.natCast_nonneg _
              have s1 : (o.size : Int) ≤ 65535 := by have := HO.out.s; omega
              have t0 : (0 : Int) ≤ (o.to_ : Int) := Int.natCast_nonneg _
              have t1 : (o.to_ : Int) ≤ 255 := by have := HO.out.t; omega
              have wi : IntKind.i64.wrap ((i : Int) + 1) = (i : Int) + 1 := IntWalk.i64_in _ (by have := HIL.out; omega)
              have wa : IntKind.i64.wrap ((o.to_ : Int) % 4 - 1) = (o.to_ : Int) % 4 - 1 := IntWalk.i64_in _ (by omega)
              have wb : IntKind.i64.wrap ((o.to_ : Int) % 4 - 1 + (o.at_ : Int) % 2) = (o.to_ : Int) % 4 - 1 + (o.at_ : Int) % 2 := IntWalk.i64_in _ (by omega)
              have ws : (IntKind.i64.wrap (o.size : Int)).tmod 3500 = (o.size : Int) % 3500 := by rw [IntWalk.i64_in _ (by omega)]; exact Int.tmod_eq_emod_of_nonneg s0
              have wt : (IntKind.i64.wrap (o.to_ : Int)).tmod 4 = (o.to_ : Int) % 4 := by rw [IntWalk.i64_in _ (by omega)]; exact Int.tmod_eq_emod_of_nonneg t0
              have wat : (o.at_ : Int).tmod 2 = (o.at_ : Int) % 2 := Int.tmod_eq_emod_of_nonneg a0
              have hob := HTT.out.block (List.mem_cons_self ..)
              have HB7 := Lib.hid hob
              have HC := Lib.hid hha
              have HTX := Lib.hid htx
              clear hho HS3 hha htx hob
              go_upto_region 30 with fail
              have HS0 : Hid (w7.cell? ⟨ob, 4, none⟩ = some (.int .u16 o.size) ∧ w7.cell? ⟨ob, 2, none⟩ = some (.int .u8 o.to_)) := Lib.hid ⟨cell_of_block (i := 4) HB7.out rfl, cell_of_block (i := 2) HB7.out rfl⟩
              refine wp_region_held_split 17 (fun w' => w'.cell? ⟨ob, 4, none⟩ = some (.int .u16 o.size) ∧ w'.cell? ⟨ob, 2, none⟩ = some (.int .u8 o.to_)) (by kernel_rfl) (by kernel_rfl) ?_ (fun hHeld => ?_)
              · (first | exact HS0.out | exact HKS.out _ (Chg.refl _ _) | exact HKS.out _ hct)
              simp only [List.take_succ_cons, List.take_zero]
              have HKS : Hid (∀ W, Chg (fun _ => False) w7.drew W → W.cell? ⟨ob, 4, none⟩ = some (.int .u16 o.size) ∧ W.cell? ⟨ob, 2, none⟩ = some (.int .u8 o.to_)) := Lib.hid (fun W hc => ⟨hc.cell HS0.out.1, hc.cell HS0.out.2⟩)
              have HWD : Hid (Chg (fun _ => False) w7 w7.drew) := Lib.hid (Chg.refl _ w7).drewR
              generalize w7.drew = wD at *
              refine wpAnyH_take (i := 0) (v := ?_) rfl (by kernel_rfl) (by kernel_rfl) (by kernel_rfl) (fun _ _ _ h => h) (Or.inl ⟨by rfl, ?_⟩) (by assumption) ?_
              rotate_left
              · (intro wq hSw; (try dsimp only at hSw); go_simp; (try with_reducible rfl))
              simp only [Act.put, List.getElem_toArray, List.getElem_cons_zero, List.getElem_cons_succ, List.setIfInBounds_toArray, List.set_cons_zero, List.set_cons_succ]
              refine wpAnyH_take (i := 1) (v := ?_) rfl (by kernel_rfl) (by kernel_rfl) (by kernel_rfl) (fun _ _ _ h => h) (Or.inl ⟨by rfl, ?_⟩) (by assumption) ?_
              rotate_left
              · (intro wq hSw; (try dsimp only at hSw); go_simp; (try with_reducible rfl))
              simp only [Act.put, List.getElem_toArray, List.getElem_cons_zero, List.getElem_cons_succ, List.setIfInBounds_toArray, List.set_cons_zero, List.set_cons_succ]
              refine wpAnyH_take (i := 2) (v := ?_) rfl (by kernel_rfl) (by kernel_rfl) (by kernel_rfl) (fun _ _ _ h => h) (Or.inl ⟨by rfl, ?_⟩) (by assumption) ?_
              rotate_left
              · (intro wq hSw; (try dsimp only at hSw); go_simp; (try with_reducible rfl))
              simp only [Act.put, List.getElem_toArray, List.getElem_cons_zero, List.getElem_cons_succ, List.setIfInBounds_toArray, List.set_cons_zero, List.set_cons_succ]
              refine wpAnyH_take (i := 3) (v := ?_) rfl (by kernel_rfl) (by kernel_rfl) (by kernel_rfl) (fun _ _ _ h => h) (Or.inl ⟨by rfl, ?_⟩) (by assumption) ?_
              rotate_left
              · (intro wq hSw; (try dsimp only at hSw); go_simp; (try with_reducible rfl))
              simp only [Act.put, List.getElem_toArray, List.getElem_cons_zero, List.getElem_cons_succ, List.setIfInBounds_toArray, List.set_cons_zero, List.set_cons_succ]
              refine wpAnyH_take (i := 4) (v := ?_) rfl (by kernel_rfl) (by kernel_rfl) (by kernel_rfl) (fun _ _ _ h => h) (Or.inl ⟨by rfl, ?_⟩) (by assumption) ?_
              rotate_left
              · (intro wq hSw; (try dsimp only at hSw); go_simp; (try with_reducible rfl))
              simp only [Act.put, List.getElem_toArray, List.getElem_cons_zero, List.getElem_cons_succ, List.setIfInBounds_toArray, List.set_cons_zero, List.set_cons_succ]
              refine wpAnyH_take (i := 5) (v := ?_) rfl (by kernel_rfl) (by kernel_rfl) (by kernel_rfl) (fun _ _ _ h => h) (Or.inl ⟨by rfl, ?_⟩) (by assumption) ?_
              rotate_left
              · (intro wq hSw; (try dsimp only at hSw); go_simp; (try with_reducible rfl))
              simp only [Act.put, List.getElem_toArray, List.getElem_cons_zero, List.getElem_cons_succ, List.setIfInBounds_toArray, List.set_cons_zero, List.set_cons_succ]
              refine wpAnyH_take (i := 6) (v := ?_) rfl (by kernel_rfl) (by kernel_rfl) (by kernel_rfl) (fun _ _ _ h => h) (Or.inl ⟨by rfl, ?_⟩) (by assumption) ?_
              rotate_left
              · (intro wq hSw; (try dsimp only at hSw); go_simp; (try with_reducible rfl))
              simp only [Act.put, List.getElem_toArray, List.getElem_cons_zero, List.getElem_cons_succ, List.setIfInBounds_toArray, List.set_cons_zero, List.set_cons_succ]
              refine wpAnyH_take (i := 7) (v := ?_) rfl (by kernel_rfl) (by kernel_rfl) (by kernel_rfl) (fun _ _ _ h => h) (Or.inl ⟨by rfl, ?_⟩) (by assumption) ?_
              rotate_left
              · (intro wq hSw; (try dsimp only at hSw); go_simp; (try with_reducible rfl))
              simp only [Act.put, List.getElem_toArray, List.getElem_cons_zero, List.getElem_cons_succ, List.setIfInBounds_toArray, List.set_cons_zero, List.set_cons_succ]
              refine wpAnyH_take (i := 9) (v := ?_) rfl (by kernel_rfl) (by kernel_rfl) (by kernel_rfl) (fun _ _ _ h => h) (Or.inl ⟨by rfl, ?_⟩) (by assumption) ?_
              rotate_left
              · (intro wq hSw; (try dsimp only at hSw); go_simp; (try with_reducible rfl))
              simp only [Act.put, List.getElem_toArray, List.getElem_cons_zero, List.getElem_cons_succ, List.setIfInBounds_toArray, List.set_cons_zero, List.set_cons_succ]
              refine wpAnyH_take (i := 10) (v := ?_) rfl (by kernel_rfl) (by kernel_rfl) (by kernel_rfl) (fun _ _ _ h => h) (Or.inl ⟨by rfl, ?_⟩) (by assumption) ?_
              rotate_left
              · (intro wq hSw; (try dsimp only at hSw); go_simp; (try with_reducible rfl))
              simp only [Act.put, List.getElem_toArray, List.getElem_cons_zero, List.getElem_cons_succ, List.setIfInBounds_toArray, List.set_cons_zero, List.set_cons_succ]
              refine wpAnyH_take (i := 11) (v := ?_) rfl (by kernel_rfl) (by kernel_rfl) (by kernel_rfl) (fun _ _ _ h => h) (Or.inl ⟨by rfl, ?_⟩) (by assumption) ?_
              rotate_left
              · (intro wq hSw; (try dsimp only at hSw); go_simp; (try with_reducible rfl))
              simp only [Act.put, List.getElem_toArray, List.getElem_cons_zero, List.getElem_cons_succ, List.setIfInBounds_toArray, List.set_cons_zero, List.set_cons_succ]
              refine wpAnyH_take (i := 12) (v := ?_) rfl (by kernel_rfl) (by kernel_rfl) (by kernel_rfl) (fun _ _ _ h => h) (Or.inl ⟨by rfl, ?_⟩) (by assumption) ?_
              rotate_left
              · (intro wq hSw; (try dsimp only at hSw); go_simp; (try with_reducible rfl))
              simp only [Act.put, List.getElem_toArray, List.getElem_cons_zero, List.getElem_cons_succ, List.setIfInBounds_toArray, List.set_cons_zero, List.set_cons_succ]
              refine wpAnyH_take (i := 13) (v := ?_) rfl (by kernel_rfl) (by kernel_rfl) (by kernel_rfl) (fun _ _ _ h => h) (Or.inl ⟨by rfl, ?_⟩) (by assumption) ?_
              rotate_left
              · (intro wq hSw; (try dsimp only at hSw); go_simp; (try with_reducible rfl))
              simp only [Act.put, List.getElem_toArray, List.getElem_cons_zero, List.getElem_cons_succ, List.setIfInBounds_toArray, List.set_cons_zero, List.set_cons_succ]
              refine wpAnyH_take (i := 14) (v := ?_) rfl (by kernel_rfl) (by kernel_rfl) (by kernel_rfl) (fun _ _ _ h => h) (Or.inl ⟨by rfl, ?_⟩) (by assumption) ?_
              rotate_left
              · (intro wq hSw; (try dsimp only at hSw); go_simp; (try with_reducible rfl))
              simp only [Act.put, List.getElem_toArray, List.getElem_cons_zero, List.getElem_cons_succ, List.setIfInBounds_toArray, List.set_cons_zero, List.set_cons_succ]
              refine wpAnyH_take (i := 15) (v := ?_) rfl (by kernel_rfl) (by kernel_rfl) (by kernel_rfl) (fun _ _ _ h => h) (Or.inl ⟨by rfl, ?_⟩) (by assumption) ?_
              rotate_left
              · (intro wq hSw; (try dsimp only at hSw); go_simp; (try with_reducible rfl))
              simp only [Act.put, List.getElem_toArray, List.getElem_cons_zero, List.getElem_cons_succ, List.setIfInBounds_toArray, List.set_cons_zero, List.set_cons_succ]
              refine wpAnyH_take (i := 16) (v := ?_) rfl (by kernel_rfl) (by kernel_rfl) (by kernel_rfl) (fun _ _ _ h => h) (Or.inl ⟨by rfl, ?_⟩) (by assumption) ?_
              rotate_left
              · (intro wq hSw; (try dsimp only at hSw); go_simp; (try with_reducible rfl))
              simp only [Act.put, List.getElem_toArray, List.getElem_cons_zero, List.getElem_cons_succ, List.setIfInBounds_toArray, List.set_cons_zero, List.set_cons_succ]
              refine wpAnyH_ready (rs := [8]) (by kernel_rfl) (by simp) ?_
              refine AllReadyH.cons (by simp only [List.getElem?_toArray, List.getElem?_cons_succ, List.getElem?_cons_zero]; rfl) (fun K hK => ?_) AllReadyH.nil
              (go_simp; go_at_call 25; (try rw [ws]); refine (HTX.out _).mono ?_; rintro _ wt ⟨rfl, hct⟩; go_simp)
              refine hK.out _ _ ?_ (fun hHeld => ?_)
              · (first | exact HS0.out | exact HKS.out _ (Chg.refl _ _) | exact HKS.out _ hct)
              clear hK K
              (try simp only [Act.put, List.getElem_toArray, List.getElem_cons_zero, List.getElem_cons_succ, List.setIfInBounds_toArray, List.set_cons_zero, List.set_cons_succ])
              refine wpAnyH_done (by kernel_rfl) ?_ _
              change wpList _ _ _ _ _ _
              simp only [List.drop_succ_cons, List.drop_zero]
              have HC2 := Lib.hid (HC.out _ (HWD.out.trans' hct))
              clear hct
              go_wp2_with fail
              refine HC2.out.mono ?_
              rintro e w8 ⟨rfl, hp⟩
              have H8 := Lib.hid (HBK.out _ _ hp)
              clear hp HBK HC HTT
              go_wp2_with fail
              go_meet
              rw [HPR.out]
              exact ⟨rfl, H8.out⟩
            ·
              have HPR : Hid (preM d1 o (i + 1) = ((withdrawM (d1.host q) (nameB o.page)).1, d1.put q (withdrawM (d1.host q) (nameB o.page)).2)) := Lib.hid (by
                have hk7 : o.kind % 7 = 1 := by have := HR.out; omega
                unfold preM callM
                rw [hk7, HQ.out]
                rfl)
              have hho := HI1.out.bd.host q
              obtain ⟨G3, HS3, -, hback⟩ := HTT.out.ref q HQL.out
              have HBK := Lib.hid hback
              clear hback
              have hca := rwithdraw_any w7 br (q * 3) _ G3 (nameB o.page) HS3 ⟨by have := hho.out; omega⟩ ⟨by have := hho.seats; have := HIL.out; omega⟩
              have HC := Lib.hid hca
              clear hca hho HS3
              go_wp2_with fail
              refine HC.out.mono ?_
              rintro e w8 ⟨rfl, hp⟩
              have H8 := Lib.hid (HBK.out _ _ hp)
              clear hp HBK HC HTT
              go_wp2_with fail
              go_meet
              rw [HPR.out]
              exact ⟨rfl, H8.out⟩
            ·
              have HPR : Hid (preM d1 o (i + 1) = ((((0 : Int), tickM (d1.host q))).1, d1.put q (((0 : Int), tickM (d1.host q))).2)) := Lib.hid (by
                have hk7 : o.kind % 7 = 2 := by have := HR.out; omega
                unfold preM callM
                rw [hk7, HQ.out]
                rfl)
              have hho := HI1.out.bd.host q
              obtain ⟨G3, HS3, -, hback⟩ := HTT.out.ref q HQL.out
              have HBK := Lib.hid hback
              clear hback
              have hca := rtick_any w7 br (q * 3) _ G3 HS3 (hho.ok (by have := HIL.out; omega) (by omega)) (by have := hho.out; have := hho.seats; have := HIL.out; omega)
              have HC := Lib.hid hca
              clear hca hho HS3
              go_wp2_with fail
              refine HC.out.mono ?_
              rintro e w8 ⟨rfl, hp⟩
              have H8 := Lib.hid (HBK.out _ _ hp)
              clear hp HBK HC HTT
              go_wp2_with fail
              go_meet
              rw [HPR.out]
              exact ⟨rfl, H8.out⟩
            ·
              have HPR : Hid (preM d1 o (i + 1) = ((startM (d1.host q) (nameB o.page)).1, d1.put q (startM (d1.host q) (nameB o.page)).2)) := Lib.hid (by
                have hk7 : o.kind % 7 = 6 := by have := HR.out; omega
                unfold preM callM
                rw [hk7, HQ.out]
                rfl)
              have hho := HI1.out.bd.host q
              obtain ⟨G3, HS3, -, hback⟩ := HTT.out.ref q HQL.out
              have HBK := Lib.hid hback
              clear hback
              have hca := rstart_any w7 br (q * 3) _ G3 (nameB o.page) HS3 (by have := nameB_size o.page; omega) ⟨by have := hho.seats; have := HIL.out; omega⟩
              have HC := Lib.hid hca
              clear hca hho HS3
              go_wp2_with fail
              refine HC.out.mono ?_
              rintro e w8 ⟨rfl, hp⟩
              have H8 := Lib.hid (HBK.out _ _ hp)
              clear hp HBK HC HTT
              go_wp2_with fail
              go_meet
              rw [HPR.out]
              exact ⟨rfl, H8.out⟩
            ·
              have e0 : (r == 0) = false := by simp; omega
              have e1 : (r == 1) = false := by simp; omega
              have e2 : (r == 2) = false := by simp; omega
              have e6 : (r == 6) = false := by simp; omega
              have hob := HTT.out.block (List.mem_cons_self ..)
              have m0 : w7.cell? ⟨ob, 0, none⟩ = some (.int .u8 o.kind) := cell_of_block (i := 0) hob rfl
              have hr := HR.out
              have k0 : (0 : Int) ≤ (o.kind : Int) := Int.natCast_nonneg _
              have hnd : ¬ (o.kind % 7 < 3 ∨ o.kind % 7 = 6) := by omega
              have HND := Lib.hid hnd
              have H345 := Lib.hid h345
              clear hnd h345 hob
              have hrow9 := HTT.out.row
              obtain ⟨a9, cap9, rfl, hle9, -⟩ := hrow9.slice
              by_cases hw : d1.way = []
              · have HPR : Hid (preM d1 o (i + 1) = (0, d1)) := Lib.hid (by
                  unfold preM
                  rw [if_neg HND.out, hw]
                  rfl)
                have hw0 : d1.way.length = 0 := by rw [hw]; rfl
                rw [hw0] at HTT ⊢
                clear hw hw0 hrow9 hle9 m0
                go_wp2_with fail
                go_meet
                rw [HPR.out]
                exact ⟨rfl, HTT.out⟩
              have hpos : 0 < d1.way.length := List.length_pos_iff.2 hw
              obtain ⟨g, off, cap3, hv, -, -⟩ := RowAt.addr hrow9 hpos
              cases hv
              obtain ⟨j, hj⟩ : ∃ j : Nat, o.at_ % d1.way.length = j := ⟨_, rfl⟩
              have hjl : j < d1.way.length := by rw [← hj]; exact Nat.mod_lt _ hpos
              have hN2 : (d1.way.length : Int) ≤ 1000000000 := by have := HI1.out.bd.len; have := HIL.out; omega
              have hj2 : (o.at_ : Int) % (d1.way.length : Int) = (j : Int) := by rw [← hj]; exact (Int.natCast_emod _ _).symm
              have hcell : ∀ (y : Nat) (u : Value), d1.way[j].cells[y]? = some u → w7.cell? ⟨g, off + j * 8 + y, none⟩ = some u := fun y u hu => by
                have hy : y < 8 := by have := (List.getElem?_eq_some_iff.1 hu).1; rw [Msg.len] at this; exact this
                have := hrow9.cellAt (j * 8 + y) u (by rw [flat_get Msg.cells 8 Msg.len d1.way j y hjl hy]; exact hu)
                rw [← Nat.add_assoc] at this
                exact this
              have hdst := HI1.out.dst _ (List.getElem_mem hjl)
              have hmin := HI1.out.bd.ways _ (List.getElem_mem hjl)
              have hget : d1.way[o.at_ % d1.way.length]? = some d1.way[j] := by rw [hj, List.getElem?_eq_getElem hjl]
              generalize hm : d1.way[j] = m at *
              have HDST := Lib.hid hdst
              have HMIN := Lib.hid hmin
              have hN0 : (0 : Int) < (d1.way.length : Int) := by omega
              have hpr : ∀ x, (match d1.way[o.at_ % d1.way.length]? with
                | none => ((0 : Int), d1)
                | some m => if o.kind % 7 = 5 then (0, { d1 with way := d1.way ++ [m] }) else if o.kind % 7 = 3 then (0, recvW (cutW d1 (o.at_ % d1.way.length)) m) else (0, cutW d1 (o.at_ % d1.way.length))) = x → preM d1 o (i + 1) = x := fun x hx => by
                unfold preM
                rw [if_neg HND.out]
                exact hx
              rw [hget] at hpr
              simp only [hj] at hpr
              have HPRR := Lib.hid hpr
              obtain ⟨N, hN⟩ : ∃ N, d1.way.length = N := ⟨_, rfl⟩
              have HNN := Lib.hid hN
              have HJN : Hid (j < N) := Lib.hid (by omega)
              clear hw hpos hj hjl hget hdst hmin hpr hm hrow9
              rw [hN] at HTT hN0 hN2 hle9 hj2 ⊢
              clear hN
              have b0 := hcell 0 _ rfl
              have b1 := hcell 1 _ rfl
              have b2 := hcell 2 _ rfl
              have b3 := hcell 3 _ rfl
              have b4 := hcell 4 _ rfl
              have b5 := hcell 5 _ rfl
              have b6 := hcell 6 _ rfl
              have b7 := hcell 7 _ rfl
              rw [Nat.add_zero] at b0
              have j0 : (0 : Int) ≤ (j : Int) := Int.natCast_nonneg _
              have j1 : (j : Int) < (N : Int) := by have := HJN.out; omega
              clear hcell
              go_upto_region 23 with fail
              clear m0
              rw [hj2]
              clear hj2 hN0
              go_upto_region 24 with fail
              have hT8 := HTT.out.alloc (.cells #[.int .i64 m.kind, .int .i64 m.frm, .int .i64 m.dst, .string m.page, .int .i64 m.epoch, .int .i64 m.index, .int .i64 m.count, .string m.data] 39)
              generalize hmb : w7.heap.size = mb at *
              generalize w7.alloc (.cells #[.int .i64 m.kind, .int .i64 m.frm, .int .i64 m.dst, .string m.page, .int .i64 m.epoch, .int .i64 m.index, .int .i64 m.count, .string m.data] 39) = w8 at *
              have hob := hT8.block (List.mem_cons_of_mem _ (List.mem_cons_self ..))
              have hbm := hT8.block (List.mem_cons_self ..)
              have m0 : w8.cell? ⟨ob, 0, none⟩ = some (.int .u8 o.kind) := cell_of_block (i := 0) hob rfl
              have hr8 : RowAt w8 39 8 (.slice (some ⟨g, off, none⟩) N cap9) N (d1.way.flatMap Msg.cells) := by have := hT8.row; rw [HNN.out] at this; exact this
              have HT8 := Lib.hid hT8
              have HBM := Lib.hid hbm
              have HR8 := Lib.hid hr8
              clear b0 b1 b2 b3 b4 b5 b6 b7 hT8 hmb hob hbm hr8 HTT
              by_cases h5 : r = 5
              ·
                  have e5 : (r == 5) = true := by simpa using h5
                  have HPR : Hid (preM d1 o (i + 1) = (0, { d1 with way := d1.way ++ [m] })) := Lib.hid (HPRR.out _ (by rw [if_pos (by have := HR.out; omega)]))
                  clear h5
                  go_upto_region 25 with fail
                  clear m0
                  have b0 : w8.cell? ⟨mb, 0, none⟩ = some (.int .i64 m.kind) := cell_of_block (i := 0) HBM.out rfl
                  have b1 : w8.cell? ⟨mb, 1, none⟩ = some (.int .i64 m.frm) := cell_of_block (i := 1) HBM.out rfl
                  have b2 : w8.cell? ⟨mb, 2, none⟩ = some (.int .i64 m.dst) := cell_of_block (i := 2) HBM.out rfl
                  have b3 : w8.cell? ⟨mb, 3, none⟩ = some (.string m.page) := cell_of_block (i := 3) HBM.out rfl
                  have b4 : w8.cell? ⟨mb, 4, none⟩ = some (.int .i64 m.epoch) := cell_of_block (i := 4) HBM.out rfl
                  have b5 : w8.cell? ⟨mb, 5, none⟩ = some (.int .i64 m.index) := cell_of_block (i := 5) HBM.out rfl
                  have b6 : w8.cell? ⟨mb, 6, none⟩ = some (.int .i64 m.count) := cell_of_block (i := 6) HBM.out rfl
                  have b7 : w8.cell? ⟨mb, 7, none⟩ = some (.string m.data) := cell_of_block (i := 7) HBM.out rfl
                  have HRA := Lib.hid (HR8.out.alloc (.cells #[.int .i64 m.kind, .int .i64 m.frm, .int .i64 m.dst, .string m.page, .int .i64 m.epoch, .int .i64 m.index, .int .i64 m.count, .string m.data] 39))
                  have HGA := Lib.hid (alloc_block w8 (.cells #[.int .i64 m.kind, .int .i64 m.frm, .int .i64 m.dst, .string m.page, .int .i64 m.epoch, .int .i64 m.index, .int .i64 m.count, .string m.data] 39))
                  have HE := Lib.hid elem_msg
                  go_wp2_with (refine list_append_elem (by rfl) _ _ _ (by rfl) 39 8 80 Try.underlying24 HE.out (by decide) _ N (d1.way.flatMap Msg.cells) (by rfl) HRA.out [.int .i64 m.kind, .int .i64 m.frm, .int .i64 m.dst, .string m.page, .int .i64 m.epoch, .int .i64 m.index, .int .i64 m.count, .string m.data] rfl w8.heap.size 39 (0, 0) (by rfl) HGA.out (by simp [Value.oneCell']) (by unfold maxLen; omega) (by omega) ?_; intro a2 n2 c2 w9 hrow5 hch5 hold5; have hT9 := Lib.hid ((HT8.out.still (Chg.alloc (fun _ => False) w8 (.cells #[.int .i64 m.kind, .int .i64 m.frm, .int .i64 m.dst, .string m.page, .int .i64 m.epoch, .int .i64 m.index, .int .i64 m.count, .string m.data] 39))).way (l := d1.way ++ [m]) hch5 (by rw [List.length_append, HNN.out]; simpa [Msg.cells] using hrow5) hold5); clear hrow5 hch5 hold5)
                  go_meet
                  rw [HPR.out]
                  exact ⟨rfl, hT9.out.less (fun x hx => List.mem_cons_of_mem _ hx)⟩
              ·
                  have e5 : (r == 5) = false := by simpa using h5
                  have H34 : Hid (r = 3 ∨ r = 4) := Lib.hid (by have := H345.out; omega)
                  have hjN := HJN.out
                  have ht1 := fun W => run_takeS (P := Try.prog) W 24 39 8 Try.underlying24 (Try.sizeOf39 W) (some ⟨g, off, none⟩) N cap9 (j : Int) (by omega) (by omega)
                  have ht2 := fun W => run_reslS (P := Try.prog) W 24 39 8 Try.underlying24 (Try.sizeOf39 W) (some ⟨g, off, none⟩) N cap9 ((j : Int) + 1) (by omega) (by omega)
                  rw [Int.toNat_natCast] at ht1
                  rw [show ((j : Int) + 1).toNat = j + 1 by omega] at ht2
                  have wj : IntKind.i64.wrap ((j : Int) + 1) = (j : Int) + 1 := IntWalk.i64_in _ (by omega)
                  clear h5
                  go_upto_region 26 with fail
                  have hcA := (Chg.alloc (fun _ => False) w8 (.cells #[] 39)).drewR
                  have hRA := HR8.out.chg hcA (fun _ _ x => x)
                  have hX := hRA.prefix (m := j) (by omega)
                  have hY := HR8.out.suffix (d := j + 1) (by omega)
                  rw [cells_take _ _ (by rw [HNN.out]; omega)] at hX
                  rw [cells_skip _ _ (by rw [HNN.out]; omega)] at hY
                  generalize hres : reslS 8 (some ⟨g, off, none⟩) N cap9 (j + 1) = vr at *
                  have hA := (RowAt.freshAt w8 39 8 w8.heap.size rfl).drew
                  have HA := Lib.hid hA
                  have HX2 := Lib.hid hX
                  have HY := Lib.hid hY
                  have HCA := Lib.hid hcA
                  have HE := Lib.hid elem_msg
                  clear hA hX hY hRA hcA hres hjN
                  clear m0
                  go_region_law ((first
                    | (refine step_append_rows (by rfl) (.tmp 81) (.tmp 84) 24 (by rfl) 39 8 80 Try.underlying24 HE.out (by decide) _ 0 [] (by rfl) HA.out _ j _ (by rfl) HX2.out (msg_ones _) (by have := HJN.out; unfold maxLen; omega) (by have := HJN.out; omega) ?_; intro a2 n2 c2 w9 hrow4 hch4 hold4; have hc4 := HCA.out.fresh hch4 (own_at (Nat.le_refl w8.heap.size)); rw [Nat.zero_add, List.nil_append] at hrow4; have hn4 := own_ge hold4 (own_at (Nat.le_refl w8.heap.size)) HCA.out.size)
                    | (refine step_append_rows (by rfl) (.tmp 85) (.tmp 89) 24 (by rfl) 39 8 80 Try.underlying24 HE.out (by decide) _ j _ (by rfl) hrow4 _ (N - (j + 1)) _ (by rfl) (HY.out.chg hc4 (fun _ _ x => x)) (msg_ones _) (by have := HJN.out; unfold maxLen; omega) (by have := HJN.out; omega) ?_; intro a5 n5 c5 w10 hrow5 hch5 hold5; have hc5 := hc4.fresh hch5 hn4; have hn5 := own_ge hold5 hn4 hc4.size)))
                  all_goals (
                    have hr6 := hrow5
                    rw [show j + (N - (j + 1)) = (d1.way.take j ++ d1.way.drop (j + 1)).length by rw [List.length_append, List.length_take, List.length_drop, HNN.out, Nat.min_eq_left (by have := HJN.out; omega)], ← List.flatMap_append] at hr6
                    have hT10 := HT8.out.way (hc5.mono (fun _ _ x => x.elim)) hr6 (fun k hk => .inr (hn5 k hk))
                    have hcu : WdI (1 + i) (60000 * i) 0 (cutW d1 j) := HI1.out.cut j
                    generalize hdl : cutW d1 j = dl at *
                    have hdl2 : ({ d1 with way := d1.way.take j ++ d1.way.drop (j + 1) } : Wd) = dl := hdl
                    rw [hdl2] at hT10
                    have HT10 := Lib.hid hT10
                    have HCU := Lib.hid hcu
                    clear hr6 hT10 hcu hdl hdl2 hrow4 hrow5 hch4 hch5 hold4 hold5 hc4 hc5 hn4 hn5 ht1 ht2 HA HX2 HY HCA HE HR8 HBM HT8
                    clear wj hN2 hle9
                    have hob := HT10.out.block (List.mem_cons_of_mem _ (List.mem_cons_self ..))
                    have hbm := HT10.out.block (List.mem_cons_self ..)
                    have m0 : w10.cell? ⟨ob, 0, none⟩ = some (.int .u8 o.kind) := cell_of_block (i := 0) hob rfl
                    have m2 : w10.cell? ⟨mb, 2, none⟩ = some (.int .i64 m.dst) := cell_of_block (i := 2) hbm rfl
                    have HBM := Lib.hid hbm
                    clear hob hbm
                    by_cases hrc : r = 3 ∧ m.dst < 3
                    · obtain ⟨h3, hd2⟩ := hrc
                      have e3 : (r == 3) = true := by simpa using h3
                      have hd1 := HDST.out
                      have hrv : recvW dl m = dl.put m.dst.toNat (receiveM (dl.host m.dst.toNat) m) := by unfold recvW; rw [if_pos ⟨hd1, hd2⟩]
                      have HPR : Hid (preM d1 o (i + 1) = (0, dl.put m.dst.toNat (receiveM (dl.host m.dst.toNat) m))) := Lib.hid (HPRR.out _ (by rw [if_neg (by have := HR.out; omega), if_pos (by have := HR.out; omega), hrv]))
                      clear h3 hrv
                      go_upto_if 99 with fail
                      obtain ⟨G7, HS7, -, hback⟩ := HT10.out.drew.ref m.dst.toNat (by omega)
                      have hmin := HMIN.out
                      have hrc := rreceive_any w10.drew br (m.dst.toNat * 3) _ G7 m HS7 (by have := hmin.page; omega) (by have := hmin.data; omega) ((HCU.out.bd.host _).ok (by have := HIL.out; omega) (by omega)) (HCU.out.st _)
                      unfold Msg.cells at hrc
                      have m1 : w10.cell? ⟨mb, 1, none⟩ = some (.int .i64 m.frm) := cell_of_block (i := 1) HBM.out rfl
                      have m0' : w10.cell? ⟨mb, 0, none⟩ = some (.int .i64 m.kind) := cell_of_block (i := 0) HBM.out rfl
                      have m3 : w10.cell? ⟨mb, 3, none⟩ = some (.string m.page) := cell_of_block (i := 3) HBM.out rfl
                      have m4 : w10.cell? ⟨mb, 4, none⟩ = some (.int .i64 m.epoch) := cell_of_block (i := 4) HBM.out rfl
                      have m5 : w10.cell? ⟨mb, 5, none⟩ = some (.int .i64 m.index) := cell_of_block (i := 5) HBM.out rfl
                      have m6 : w10.cell? ⟨mb, 6, none⟩ = some (.int .i64 m.count) := cell_of_block (i := 6) HBM.out rfl
                      have m7 : w10.cell? ⟨mb, 7, none⟩ = some (.string m.data) := cell_of_block (i := 7) HBM.out rfl
                      have HRC := Lib.hid hrc
                      have HBK2 := Lib.hid hback
                      clear hmin hback hrc HS7 m0
                      go_wp2_with fail
                      go_still_tail 4, (by kernel_rfl)
                      change wpList _ _ _ _ _ w10.drew
                      go_wp2_with fail
                      refine HRC.out.mono ?_
                      rintro e w11 ⟨rfl, hp7⟩
                      have hT11 := Lib.hid (HBK2.out _ _ hp7)
                      clear hp7 HBK2 HRC m0' m1 m2 m3 m4 m5 m6 m7
                      go_wp2_with fail
                      go_meet
                      rw [HPR.out]
                      exact ⟨rfl, hT11.out.less (fun x hx => List.mem_cons_of_mem _ hx)⟩
                    · have HPR : Hid (preM d1 o (i + 1) = (0, dl)) := Lib.hid (HPRR.out _ (by
                        rw [if_neg (by have := HR.out; have := H34.out; omega)]
                        by_cases h3 : o.kind % 7 = 3
                        · have hd2 : ¬ (0 ≤ m.dst ∧ m.dst < 3) := fun x => hrc ⟨by have := HR.out; omega, x.2⟩
                          rw [if_pos h3]
                          unfold recvW
                          rw [if_neg hd2]
                        · rw [if_neg h3]))
                      by_cases h3 : r = 3
                      · have e3 : (r == 3) = true := by simpa using h3
                        have hd3 : ¬ m.dst < 3 := fun x => hrc ⟨h3, x⟩
                        have hd4 : decide (m.dst < 3) = false := decide_eq_false hd3
                        clear h3 hrc hd3
                        go_wp2_with fail
                        go_meet
                        rw [HPR.out]
                        exact ⟨rfl, HT10.out.less (fun x hx => List.mem_cons_of_mem _ hx)⟩
                      · have e3 : (r == 3) = false := by simpa using h3
                        clear h3 hrc
                        go_wp2_with fail
                        go_meet
                        rw [HPR.out]
                        exact ⟨rfl, HT10.out.less (fun x hx => List.mem_cons_of_mem _ hx)⟩)
          case rest =>
          obtain ⟨rfl, hT⟩ := hcut
          have hpre := preM_do HI1.out o (i + 1)
          have hpi := HI1.out.pre (by omega) (by have := HIL.out; omega) o (i + 1)
          generalize (preM d1 o (i + 1)).2 = r0 at *
          generalize (preM d1 o (i + 1)).1 = er at *
          have HPRE := Lib.hid hpre
          have HPI := Lib.hid hpi
          have HTC := Lib.hid hT
          clear hpre hpi hT HTT k0 a0 a1 q0 q1
          go_wp2_with fail
          go_loopw [6, 15] (fun s6 s15 wr => ∃ kk : Nat, kk ≤ 3 ∧ s15 = .int .i64 kk ∧ Hid (Two w wr bw br d (takeMs r0 kk) s6 [(ob, (.cells #[.int .u8 o.kind, .int .u8 o.at_, .int .u8 o.to_, .int .u8 o.page, .int .u16 o.size] 53))])) (fun _ s15 _ => 3 - (intOf s15).toNat)
          case atStart => exact ⟨0, by omega, rfl, HTC⟩
          case round =>
            obtain ⟨kk, hk, rfl, HT⟩ := hrel
            clear HTC
            by_cases hlt : kk < 3
            · have k0 : (0 : Int) ≤ (kk : Int) := Int.natCast_nonneg _
              have k1 : (kk : Int) < 3 := by omega
              have hfew := (HPI.out.bd.collectOk (by have := HIL.out; omega)) kk hlt
              have htm : takeMs r0 (kk + 1) = takeM (takeMs r0 kk) kk := rfl
              have HTM := Lib.hid htm
              generalize takeMs r0 kk = rk at *
              obtain ⟨G, HS, -, -⟩ := HT.out.ref kk hlt
              obtain ⟨vs, vo, -, -, c2, F1, F2', -, ho, -⟩ := hostCells HS
              obtain ⟨vo', e, hrow, -⟩ := row_flat.1 ho
              cases e
              obtain ⟨a8, cap8, rfl, -, -⟩ := hrow.slice
              have hrow6 := HT.out.row
              obtain ⟨a6, cap6, rfl, -, -⟩ := hrow6.slice
              have HROW := Lib.hid hrow
              have HROW6 := Lib.hid hrow6
              have HE := Lib.hid elem_msg
              have HF := Lib.hid hfew
              have HKL := Lib.hid hlt
              clear hfew htm HS ho hrow hrow6 hk hlt
              go_upto_region 40 with fail
              go_upto_region 41 with (at_builtin; refine list_append_rows rfl (.tmp 143) (.tmp 147) 24 rfl 39 8 80 Try.underlying24 HE.out (by decide) _ rk.way.length _ (by rfl) HROW6.out _ (rk.host kk).out.length _ (by rfl) HROW.out (msg_ones _) (by have := HF.out.lt; unfold maxLen; omega) (by have := HF.out.lt; omega) ?_; intro a5 n5 c5 w9 hrow5 hch5 hold5; have HT9 := Lib.hid (HT.out.way (l := rk.way ++ (rk.host kk).out) hch5 (by rw [List.length_append, List.flatMap_append]; exact hrow5) hold5); clear hrow5 hch5 hold5)
              clear c2
              obtain ⟨G9, HS9, -, hback⟩ := HT9.out.ref kk HKL.out
              have hp9 := HS9.setNil hostR_out (by show 0 < 3; decide)
              obtain ⟨vs9, vo9, -, -, c9, -⟩ := hostCells HS9
              have f9 := HS9.frozen (kk * 3 + 2)
              have hT10 : Two w (w9.setCell ⟨br, kk * 3 + 2, none⟩ (.slice none 0 0)) bw br d (takeMs r0 (kk + 1)) (.slice a5 n5 c5) [(ob, (.cells #[.int .u8 o.kind, .int .u8 o.at_, .int .u8 o.to_, .int .u8 o.page, .int .u16 o.size] 53))] := by
                rw [HTM.out]
                have h := hback _ _ hp9
                have e1 : Wd.put { rk with way := rk.way ++ (rk.host kk).out } kk { Wd.host { rk with way := rk.way ++ (rk.host kk).out } kk with out := [] } = takeM rk kk := by
                  match kk, HKL.out with
                  | 0, _ => rfl
                  | 1, _ => rfl
                  | 2, _ => rfl
                rw [e1] at h
                exact h
              have HT10 := Lib.hid hT10
              clear hp9 hback hT10 HS9 HT9 HROW HROW6
              go_wp2_with fail
              go_roundw
              case rel => exact ⟨kk + 1, HKL.out, by go_num, HT10⟩
              case measure => have := HKL.out; simp [intOf]; omega
            · have hk3 : kk = 3 := by omega
              subst hk3
              rw [show ((3 : Nat) : Int) = 3 from rfl]
              have HTC : Hid (Two w wr bw br d (collectM r0) u6 [(ob, (.cells #[.int .u8 o.kind, .int .u8 o.at_, .int .u8 o.to_, .int .u8 o.page, .int .u16 o.size] 53))]) := HT
              clear HT hlt hk
              generalize hcm : collectM r0 = d2 at *
              have HCM := Lib.hid hcm
              clear hcm
              obtain ⟨F9, HS9, hback⟩ := HTC.out.prog
              have hdo := do_any wr bw d F9 o i (1 + i) (60000 * i) HS9 HI.out HN.out (by have := HIL.out; omega) (by omega) (by have := HIL.out; omega) (by have := HIL.out; omega) HO.out
              rw [← HD1.out, HPRE.out] at hdo
              have hin := HI1.out.do_ (by omega) (by have := HIL.out; omega) o (i + 1)
              rw [HPRE.out] at hin
              have hnn : (d2.n : Int) = ((i + 1 : Nat) : Int) := by
                have h1 : (doM d1 o (i + 1)).2.n = d1.n := by
                  unfold doM
                  have hc : ∀ x : Wd, (collectM x).n = x.n := fun x => rfl
                  split
                  · rw [hc, put_n]
                  · cases d1.way[o.at_ % d1.way.length]? with
                    | none => rfl
                    | some m =>
                      simp only
                      split
                      · rfl
                      split
                      · rw [hc]
                        unfold recvW
                        split
                        · rw [put_n]; rfl
                        · rfl
                      · rw [hc]; rfl
                rw [HPRE.out, HD1.out] at h1
                rw [h1]
                rfl
              have hob := HTC.out.block (List.mem_cons_self ..)
              unfold EvM.cells at hdo
              have m0 : wr.cell? ⟨ob, 0, none⟩ = some (.int .u8 o.kind) := cell_of_block (i := 0) hob rfl
              have m1 : wr.cell? ⟨ob, 1, none⟩ = some (.int .u8 o.at_) := cell_of_block (i := 1) hob rfl
              have m2 : wr.cell? ⟨ob, 2, none⟩ = some (.int .u8 o.to_) := cell_of_block (i := 2) hob rfl
              have m3 : wr.cell? ⟨ob, 3, none⟩ = some (.int .u8 o.page) := cell_of_block (i := 3) hob rfl
              have m4 : wr.cell? ⟨ob, 4, none⟩ = some (.int .u16 o.size) := cell_of_block (i := 4) hob rfl
              have HDO := Lib.hid hdo
              have HBK := Lib.hid hback
              have HIN := Lib.hid hin
              have HNN := Lib.hid hnn
              clear HS9 hdo hback hin hnn hob HPRE HPI HI1 HI HN HD1
              have e5 : (er != er) = false := by simp
              go_wp2_with fail
              refine HDO.out.mono ?_
              rintro e w12 ⟨rfl, hp⟩
              have hT12 := (HBK.out _ _ hp).less (B' := []) (fun x hx => by cases hx)
              obtain ⟨F12, HS12, -⟩ := hT12.prog
              obtain ⟨a9, cap9, c9, hrow9, -, -, -⟩ := wayRow HS12
              have hrow6 := hT12.row
              obtain ⟨a6, cap6, rfl, -, -⟩ := hrow6.slice
              have HT12 := Lib.hid hT12
              have hN2 : (d2.way.length : Int) ≤ 1000000000 := by have := HIN.out.bd.len; have := HIL.out; omega
              clear hp hT12 HS12 hrow9 hrow6 HDO HBK HTC m0 m1 m2 m3 m4
              go_upto_region 44 with fail
              clear c9 e5
              go_wp2_with fail
              go_loopw [16] (fun s16 wr => ∃ kk : Nat, kk ≤ d2.way.length ∧ s16 = .int .i64 kk ∧ Hid (Two w wr bw br d2 d2 (.slice a6 d2.way.length cap6) [])) (fun s16 _ => d2.way.length - (intOf s16).toNat)
              case atStart => exact ⟨0, by omega, rfl, HT12⟩
              case round =>
                obtain ⟨kk, hk, rfl, HT⟩ := hrel
                have k0 : (0 : Int) ≤ (kk : Int) := Int.natCast_nonneg _
                clear HT12
                by_cases hlt : kk < d2.way.length
                · have k1 : (kk : Int) < (d2.way.length : Int) := by omega
                  obtain ⟨F12, HS12, -⟩ := HT.out.prog
                  obtain ⟨a9, cap9, c9, hrow9, -, -, -⟩ := wayRow HS12
                  have hrow6 := HT.out.row
                  have hpos : 0 < d2.way.length := by omega
                  obtain ⟨g9, o9, cap9', hv, -, -⟩ := RowAt.addr hrow9 hpos
                  cases hv
                  obtain ⟨g6, o6, cap6', hv, -, -⟩ := RowAt.addr hrow6 hpos
                  cases hv
                  have hc9 : ∀ (y : Nat) (u : Value), d2.way[kk].cells[y]? = some u → ∀ x : Later wr, x.at_.cell? ⟨g9, o9 + kk * 8 + y, none⟩ = some u := fun y u hu => by
                    have hy : y < 8 := by have := (List.getElem?_eq_some_iff.1 hu).1; rw [Msg.len] at this; exact this
                    have := hrow9.cellAt (kk * 8 + y) u (by rw [flat_get Msg.cells 8 Msg.len d2.way kk y hlt hy]; exact hu)
                    rw [← Nat.add_assoc] at this
                    exact Later.cell this
                  have hc6 : ∀ (y : Nat) (u : Value), d2.way[kk].cells[y]? = some u → ∀ x : Later wr, x.at_.cell? ⟨g6, o6 + kk * 8 + y, none⟩ = some u := fun y u hu => by
                    have hy : y < 8 := by have := (List.getElem?_eq_some_iff.1 hu).1; rw [Msg.len] at this; exact this
                    have := hrow6.cellAt (kk * 8 + y) u (by rw [flat_get Msg.cells 8 Msg.len d2.way kk y hlt hy]; exact hu)
                    rw [← Nat.add_assoc] at this
                    exact Later.cell this
                  have l9 := Later.cell c9
                  generalize d2.way[kk] = m at *
                  have x0 := hc9 0 _ rfl
                  have x1 := hc9 1 _ rfl
                  have x2 := hc9 2 _ rfl
                  have x3 := hc9 3 _ rfl
                  have x4 := hc9 4 _ rfl
                  have x5 := hc9 5 _ rfl
                  have x6 := hc9 6 _ rfl
                  have x7 := hc9 7 _ rfl
                  have y0 := hc6 0 _ rfl
                  have y1 := hc6 1 _ rfl
                  have y2 := hc6 2 _ rfl
                  have y3 := hc6 3 _ rfl
                  have y4 := hc6 4 _ rfl
                  have y5 := hc6 5 _ rfl
                  have y6 := hc6 6 _ rfl
                  have y7 := hc6 7 _ rfl
                  rw [Nat.add_zero] at x0 y0
                  have hp1 : (m.page.toList == m.page.toList) = true := by simp
                  have hp2 : (m.data.toList == m.data.toList) = true := by simp
                  have HLT2 := Lib.hid hlt
                  clear hc9 hc6 c9 hrow9 hrow6 hpos HS12 hlt hk
                  go_upto_region 47 with fail
                  refine wp_region_later (by kernel_rfl) (by kernel_rfl) ?_
                  repeat (go_big_quiet_step (fail))
                  refine wpQuiet_nil ?_
                  rintro _ ⟨x, rfl⟩
                  have HTX := Lib.hid (HT.out.still x.chg)
                  clear l9 x0 x1 x2 x3 x4 x5 x6 x7 y0 y1 y2 y3 y4 y5 y6 y7 hp1 hp2 HT
                  go_wp2_with fail
                  go_roundw
                  case rel => exact ⟨kk + 1, HLT2.out, by go_num, HTX⟩
                  case measure => have := HLT2.out; simp [intOf]; omega
                · have k1 : ¬ (kk : Int) < (d2.way.length : Int) := by omega
                  clear hlt hk
                  go_wp2_with fail
                  go_loopw [17, 18] (fun s17 s18 wr => ∃ ks : Nat, ks ≤ 3 ∧ s17 = .int .i64 ks ∧ Hid (Two w wr bw br d2 d2 (.slice a6 d2.way.length cap6) [])) (fun s17 _ _ => 3 - (intOf s17).toNat)
                  case atStart => exact ⟨0, by omega, rfl, HT⟩
                  case round =>
                    obtain ⟨ks, hk, rfl, HTK⟩ := hrel
                    have s0 : (0 : Int) ≤ (ks : Int) := Int.natCast_nonneg _
                    clear HT k0 k1
                    by_cases hlt : ks < 3
                    · have s1 : (ks : Int) < 3 := by omega
                      obtain ⟨FW, HSW, -⟩ := HTK.out.prog
                      obtain ⟨GW, HW, -, -⟩ := wdHost HSW ks hlt
                      obtain ⟨GR, HR, -, -⟩ := HTK.out.ref ks hlt
                      obtain ⟨vs, vo, -, cw1, cw2, F1, F2', hs, ho, -⟩ := hostCells HW
                      obtain ⟨us, uo, -, cr1, -, K1, K2, hs', -, -⟩ := hostCells HR
                      obtain ⟨zs1, Fs1, hop1⟩ := Rep.opened hs
                      obtain ⟨aw, capw, rfl, -, -⟩ := hop1.val
                      obtain ⟨zs2, Fs2, hop2⟩ := Rep.opened hs'
                      obtain ⟨ar, capr, rfl, -, -⟩ := hop2.val
                      obtain ⟨vo', e, hro, -⟩ := row_flat.1 ho
                      cases e
                      obtain ⟨ao, capo, rfl, -, -⟩ := hro.slice
                      have hout : (d2.host ks).out = [] := out_nil (HIN.out.bd.host ks)
                      rw [hout] at cw2
                      simp only [List.length_nil] at cw2
                      have l1 := Later.cell cw1
                      have l2 := Later.cell cw2
                      have l3 := Later.cell cr1
                      have HLT2 := Lib.hid hlt
                      have hN3 : ((d2.host ks).seats.length : Int) ≤ 1000 := by have := (HIN.out.bd.host ks).seats; have := HIL.out; omega
                      have hne : (((d2.host ks).seats.length : Int) != ((d2.host ks).seats.length : Int)) = false := by simp
                      clear HSW HW HR cw1 cw2 cr1 hs ho hs' hop1 hop2 hro hout hlt hk
                      go_upto_region 52 with fail
                      refine wp_region_later (by kernel_rfl) (by kernel_rfl) ?_
                      repeat (go_big_quiet_step (fail))
                      refine wpQuiet_nil ?_
                      rintro _ ⟨x, rfl⟩
                      have HTX := Lib.hid (HTK.out.still x.chg)
                      clear l1 l2 l3 HTK
                      go_wp2_with fail
                      go_loopw [18] (fun s18 wr => ∃ j : Nat, j ≤ (d2.host ks).seats.length ∧ s18 = .int .i64 j ∧ Hid (Two w wr bw br d2 d2 (.slice a6 d2.way.length cap6) [])) (fun s18 _ => (d2.host ks).seats.length - (intOf s18).toNat)
                      case atStart => exact ⟨0, by omega, rfl, HTX⟩
                      case round =>
                        obtain ⟨j, hj, rfl, HTJ⟩ := hrel
                        have j0 : (0 : Int) ≤ (j : Int) := Int.natCast_nonneg _
                        clear HTX
                        obtain ⟨FW, HSW, -⟩ := HTJ.out.prog
                        obtain ⟨GW, HW, -, -⟩ := wdHost HSW ks HLT2.out
                        obtain ⟨GR, HR, -, -⟩ := HTJ.out.ref ks HLT2.out
                        by_cases hlt : j < (d2.host ks).seats.length
                        · have j1 : (j : Int) < ((d2.host ks).seats.length : Int) := by omega
                          obtain ⟨gw, ow, cpw, cw1⟩ := hostRow HW (by omega)
                          obtain ⟨gr, or_, cpr, cr1⟩ := hostRow HR (by omega)
                          obtain ⟨G1, HS1, -⟩ := HW.rowElem hostR_seats (by show 0 < 3; decide) cw1 hlt
                          obtain ⟨G2, HS2, -⟩ := HR.rowElem hostR_seats (by show 0 < 3; decide) cr1 hlt
                          have hse := (HIN.out.bd.host ks).each _ (List.getElem_mem hlt)
                          generalize hyy : (d2.host ks).seats[j] = y at *
                          change Here seatR wr gw (ow + j * 8) y G1 at HS1
                          change Here seatR wr gr (or_ + j * 8) y G2 at HS2
                          obtain ⟨ca, Ta, v5, v6, v7, hblk, -, hown, q0, q1, q2, q3, q4, q5, q6, q7⟩ := seatBlock HS1
                          obtain ⟨cb, Tb, u5, u6, u7, hblk2, -, hown2, p0, p1, p2, p3, p4, p5, p6, p7⟩ := seatBlock HS2
                          obtain ⟨r5, r6, r7, -⟩ := seat_rows hown
                          obtain ⟨t5, t6, t7, -⟩ := seat_rows hown2
                          have HSAME : Hid (∀ x : Later wr, Calls Try.prog 30 #[.agg #[.string y.page, .int .i64 y.state, .int .i64 y.epoch, .int .i64 y.peer, .string y.letter, v5, v6, v7], .agg #[.string y.page, .int .i64 y.state, .int .i64 y.epoch, .int .i64 y.peer, .string y.letter, u5, u6, u7]] x.at_ fun e w' => e = .returned (.bool true) ∧ Chg (fun _ => False) x.at_ w') := Lib.hid (fun x =>
                            rsame_any x.at_ y v5 v6 v7 u5 u6 u7 ((Seen.ofRow r5).still x.chg) ((Seen.ofRow r6).still x.chg) ((Seen.ofRow r7).still x.chg) ((Seen.ofRow t5).still x.chg) ((Seen.ofRow t6).still x.chg) ((Seen.ofRow t7).still x.chg) ⟨by have := hse.ok.few; omega⟩ ⟨by have := hse.ok.few; have := hse.ok.same; omega⟩ ⟨by have := hse.refuses; have := HIL.out; omega⟩)
                          obtain ⟨a5, c5, rfl, -, -⟩ := r5.slice
                          obtain ⟨a6', c6, rfl, -, -⟩ := r6.slice
                          obtain ⟨a7, c7, rfl, -, -⟩ := r7.slice
                          obtain ⟨b5, e5, rfl, -, -⟩ := t5.slice
                          obtain ⟨b6, e6, rfl, -, -⟩ := t6.slice
                          obtain ⟨b7, e7, rfl, -, -⟩ := t7.slice
                          have x0 := Later.cell (cell_of_block hblk q0)
                          have x1 := Later.cell (cell_of_block hblk q1)
                          have x2 := Later.cell (cell_of_block hblk q2)
                          have x3 := Later.cell (cell_of_block hblk q3)
                          have x4 := Later.cell (cell_of_block hblk q4)
                          have x5 := Later.cell (cell_of_block hblk q5)
                          have x6 := Later.cell (cell_of_block hblk q6)
                          have x7 := Later.cell (cell_of_block hblk q7)
                          have y0 := Later.cell (cell_of_block hblk2 p0)
                          have y1 := Later.cell (cell_of_block hblk2 p1)
                          have y2 := Later.cell (cell_of_block hblk2 p2)
                          have y3 := Later.cell (cell_of_block hblk2 p3)
                          have y4 := Later.cell (cell_of_block hblk2 p4)
                          have y5 := Later.cell (cell_of_block hblk2 p5)
                          have y6 := Later.cell (cell_of_block hblk2 p6)
                          have y7 := Later.cell (cell_of_block hblk2 p7)
                          have l1 := Later.cell cw1
                          have l3 := Later.cell cr1
                          have HJ := Lib.hid hlt
                          clear HSW HW HR cw1 HS1 HS2 hse hblk hown hblk2 hown2 q0 q1 q2 q3 q4 q5 q6 q7 p0 p1 p2 p3 p4 p5 p6 p7 r5 r6 r7 t5 t6 t7 hj hlt hyy hne
                          go_upto_region 57 with fail
                          clear cr1
                          refine wp_region_later (by kernel_rfl) (by kernel_rfl) ?_
                          repeat (go_big_quiet_step ((go_at_call 30; exact Later.call (HSAME.out _))))
                          refine wpQuiet_nil ?_
                          rintro _ ⟨x, rfl⟩
                          have HTX := Lib.hid (HTJ.out.still x.chg)
                          clear l1 l3 x0 x1 x2 x3 x4 x5 x6 x7 y0 y1 y2 y3 y4 y5 y6 y7 HSAME HTJ
                          go_wp2_with fail
                          go_roundw
                          case rel => exact ⟨j + 1, HJ.out, by go_num, HTX⟩
                          case measure => have := HJ.out; simp [intOf]; omega
                        · have j1 : ¬ (j : Int) < ((d2.host ks).seats.length : Int) := by omega
                          obtain ⟨us, uo, -, cr1, -, K1, K2, hs', -, -⟩ := hostCells HR
                          obtain ⟨zs2, Fs2, hop2⟩ := Rep.opened hs'
                          obtain ⟨ar, capr, rfl, -, -⟩ := hop2.val
                          clear HSW HW HR hs' hop2 hlt hj hne
                          go_wp2_with fail
                          go_roundw
                          case rel => exact ⟨ks + 1, HLT2.out, by go_num, HTJ⟩
                          case measure => have := HLT2.out; simp [intOf]; omega
                    · have hk3 : ks = 3 := by omega
                      subst hk3
                      rw [show ((3 : Nat) : Int) = 3 from rfl]
                      clear hlt hk
                      go_wp2_with fail
                      go_roundw
                      case rel => exact ⟨i + 1, d2, HLT.out, by go_num, HTK, HNN, Lib.hid (by have h := HIN.out; rw [show 1 + i + 1 = 1 + (i + 1) by omega, show 60000 * i + 60000 = 60000 * (i + 1) by omega] at h; exact h)⟩
                      case measure => have := HLT.out; simp [intOf]; omega
        · have hx : ¬ (i : Int) < (xs.length : Int) := by omega
          have HC := Lib.hid HT.out.chg
          clear HT HN HI hi hlt
          go_wp2_with fail
          go_ret
          exact ⟨rfl, HC.out.below (Nat.le_refl _) (fun _ h => h.elim)⟩
end Go.Proofs.Ytkoopagjjmdodaa
