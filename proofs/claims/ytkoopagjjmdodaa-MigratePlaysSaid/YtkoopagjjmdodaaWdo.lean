/-
  The events of the laws of layer 54: Do.
-/
import Derived.Test.YtkoopagjjmdodaaDA
import Derived.Test.YtkoopagjjmdodaaHany
import Derived.Test.YtkoopagjjmdodaaCopy
import Derived.Test.YtkoopagjjmdodaaMrj
import Derived.Test.YtkoopagjjmdodaaHeldT
import Derived.Deep.CutRange
import Derived.Deep.CutBlock
namespace Go.Proofs.Ytkoopagjjmdodaa
open Go.RowKit
set_option linter.unusedVariables false
set_option linter.unusedSimpArgs false

theorem WdI.setN {n k q : Nat} {d : Wd} (H : WdI n k q d) (i : Int) : WdI n k q { d with n := i } :=
  ⟨⟨H.bd.h0, H.bd.h1, H.bd.h2, H.bd.len, H.bd.ways⟩, fun j => H.st j, fun j => H.pe j, H.dst⟩

set_option maxHeartbeats 20000000 in
set_option maxRecDepth 100000 in
theorem do_any (w : World) (b : Nat) (d : Wd) (F : List Nat) (o : EvM) (i n k : Nat) (H : Here wdR w b 0 d F) (hI : WdI n k 0 d) (hn : d.n = (i : Int)) (hi : i ≤ 100) (hn1 : 1 ≤ n) (hn2 : n ≤ 1000) (hk : k ≤ 100000000) (ho : o.Ok) :
    Calls Try.prog 29 #[.pointer (some ⟨b, 0, none⟩), .agg o.cells.toArray] w fun e w' => e = .returned (.int .i64 (doM { d with n := (i : Int) + 1 } o (i + 1)).1) ∧ WdPost w b (doM { d with n := (i : Int) + 1 } o (i + 1)).2 F w' := by
  have hI1 := hI.setN ((i : Int) + 1)
  have hbx := alloc_block w (.cells #[.int .u8 o.kind, .int .u8 o.at_, .int .u8 o.to_, .int .u8 o.page, .int .u16 o.size] 53)
  have hcx := Chg.alloc (fun _ => False) w (.cells #[.int .u8 o.kind, .int .u8 o.at_, .int .u8 o.to_, .int .u8 o.page, .int .u16 o.size] 53)
  have H1 := H.still hcx
  obtain ⟨G, hN, -, -⟩ := H1.field wdR_n (by show 0 < 11; decide)
  have c10 := hN.cells (cs := []) 0 _ rfl
  rw [hn] at c10
  have f10 := H1.frozen 10
  have hob := H.lt.1
  obtain ⟨F2, H2, S2⟩ : ∃ F2, Here wdR ((w.alloc (.cells #[.int .u8 o.kind, .int .u8 o.at_, .int .u8 o.to_, .int .u8 o.page, .int .u16 o.size] 53)).setCell ⟨b, 10, none⟩ (.int .i64 ((i : Int) + 1))) b 0 { d with n := (i : Int) + 1 } F2 ∧ Step (w.alloc (.cells #[.int .u8 o.kind, .int .u8 o.at_, .int .u8 o.to_, .int .u8 o.page, .int .u16 o.size] 53)) ((w.alloc (.cells #[.int .u8 o.kind, .int .u8 o.at_, .int .u8 o.to_, .int .u8 o.page, .int .u16 o.size] 53)).setCell ⟨b, 10, none⟩ (.int .i64 ((i : Int) + 1))) b 0 11 F F2 := H1.setPost wdR_n rfl
  have hP : ∀ d' w', WdPost ((w.alloc (.cells #[.int .u8 o.kind, .int .u8 o.at_, .int .u8 o.to_, .int .u8 o.page, .int .u16 o.size] 53)).setCell ⟨b, 10, none⟩ (.int .i64 ((i : Int) + 1))) b d' F2 w' → WdPost w b d' F w' := fun d' w' hp => by
    obtain ⟨F3, q1, q2⟩ := hp
    exact ⟨F3, q1, (Step.ofChg hcx).trans (S2.trans q2)⟩
  have hb2 := setCell_other (b := b) (i := 10) (.int .i64 ((i : Int) + 1)) hbx (by omega)
  generalize hd1 : ({ d with n := (i : Int) + 1 } : Wd) = d1 at *
  have wi : IntKind.i64.wrap ((i : Int) + 1) = (i : Int) + 1 := IntWalk.i64_in _ (by omega)
  have HI := Lib.hid hI1
  have HP := Lib.hid hP
  have HB := Lib.hid hb2
  have HH := Lib.hid H2
  have HO := Lib.hid ho
  have HIN := Lib.hid hi
  have HN1 := Lib.hid hn1
  have HN2 := Lib.hid hn2
  have HK := Lib.hid hk
  have HOB : Hid (w.heap.size ≠ b) := Lib.hid (by omega)
  have HD1 : Hid (d1.n = (i : Int) + 1) := Lib.hid (by subst hd1; rfl)
  unfold EvM.cells
  obtain ⟨o1, o2, o3, o4, o5⟩ := ho
  have k0 : (0 : Int) ≤ (o.kind : Int) := Int.natCast_nonneg _
  have a0 : (0 : Int) ≤ (o.at_ : Int) := Int.natCast_nonneg _
  have a1 : (o.at_ : Int) < 256 := by omega
  clear hI hI1 hcx H H1 hN H2 S2 hP hb2 hn hi hn1 hn2 hk o1 o2 o3 o4 o5 hd1 hob
  go_enter Try.func29, Try.ntmps29
  go_upto_region 4 with fail
  clear hbx c10 f10 wi
  generalize hobn : w.heap.size = ob at *
  generalize (w.alloc (.cells #[.int .u8 o.kind, .int .u8 o.at_, .int .u8 o.to_, .int .u8 o.page, .int .u16 o.size] 53)).setCell ⟨b, 10, none⟩ (.int .i64 ((i : Int) + 1)) = w2 at *
  have m0 : w2.cell? ⟨ob, 0, none⟩ = some (.int .u8 o.kind) := cell_of_block (i := 0) HB.out rfl
  have m3 : w2.cell? ⟨ob, 3, none⟩ = some (.int .u8 o.page) := cell_of_block (i := 3) HB.out rfl
  obtain ⟨q, hq⟩ : ∃ q : Nat, o.at_ % 3 = q := ⟨_, rfl⟩
  have hq2 : (o.at_ : Int) % 3 = (q : Int) := by omega
  have q0 : (0 : Int) ≤ (q : Int) := Int.natCast_nonneg _
  have q1 : (q : Int) < 3 := by omega
  have HQ := Lib.hid hq
  have HQL : Hid (q < 3) := Lib.hid (by omega)
  go_upto_region 5 with fail
  rw [hq2]
  clear hq hq2
  go_wp2_with fail
  refine (rname_any o.page (by have := HO.out.p; omega) w2).mono ?_
  rintro e w3 ⟨rfl, hc3⟩
  have H3 := HH.out.still hc3
  have hP3 : ∀ d' w', WdPost w3 b d' F2 w' → WdPost w b d' F w' := fun d' w' hp => HP.out _ _ (hp.pre hc3)
  have hb3 := hc3.keep HB.out (fun x => x)
  have m0 : w3.cell? ⟨ob, 0, none⟩ = some (.int .u8 o.kind) := cell_of_block (i := 0) hb3 rfl
  have HH3 := Lib.hid H3
  have HP3 := Lib.hid hP3
  have HB3 := Lib.hid hb3
  clear hc3 H3 hP3 hb3 HH HP HB m3
  go_upto_block 0 with fail
  clear m0
  have hcase : (o.kind : Int) % 7 = 0 ∨ (o.kind : Int) % 7 = 1 ∨ (o.kind : Int) % 7 = 2 ∨ (o.kind : Int) % 7 = 6 ∨ (o.kind : Int) % 7 = 3 ∨ (o.kind : Int) % 7 = 4 ∨ (o.kind : Int) % 7 = 5 := by omega
  generalize hr : (o.kind : Int) % 7 = r at *
  have HR := Lib.hid hr
  clear hr k0
  rcases hcase with rfl | rfl | rfl | rfl | h345
  · as_aux_lemma =>
      have HDO : Hid (doM d1 o (i + 1) = ((handM (d1.host q) (nameB o.page) (textB (o.size % 3500) (i + 1)) (evDst o)).1, collectM (d1.put q (handM (d1.host q) (nameB o.page) (textB (o.size % 3500) (i + 1)) (evDst o)).2))) := Lib.hid (by
        have hk7 : o.kind % 7 = 0 := by have := HR.out; omega
        unfold doM callM
        rw [hk7, HQ.out]
        rfl)
      have hic : WdI (n + 1) k 20000 (d1.put q (handM (d1.host q) (nameB o.page) (textB (o.size % 3500) (i + 1)) (evDst o)).2) := by
        have h1 := HI.out.call HN1.out HN2.out q o (i + 1)
        have hk7 : o.kind % 7 = 0 := by have := HR.out; omega
        unfold callM at h1
        rw [hk7] at h1
        exact h1
      have HIC := Lib.hid hic
      have hho := HI.out.bd.host q
      obtain ⟨G3, HS3, -, hback⟩ := wdHost HH3.out q HQL.out
      have HBK := Lib.hid hback
      clear hic hback
      have hha : ∀ W, Chg (fun _ => False) w3 W → Calls Try.prog 12 #[.pointer (some ⟨b, q * 3, none⟩), .string (nameB o.page), .string (textB (o.size % 3500) (i + 1)), .int .i64 ((o.to_ : Int) % 4 - 1 + (o.at_ : Int) % 2)] W fun e w' => e = .returned (.int .i64 (handM (d1.host q) (nameB o.page) (textB (o.size % 3500) (i + 1)) (evDst o)).1) ∧ HostPost w3 b (q * 3) (handM (d1.host q) (nameB o.page) (textB (o.size % 3500) (i + 1)) (evDst o)).2 G3 w' := fun W hc =>
        (hand_any W b (q * 3) _ G3 (nameB o.page) (textB (o.size % 3500) (i + 1)) (evDst o) (HS3.still hc) (by rw [textB_size]; omega) (fun s hs => ⟨by have := (hho.each s hs).lo; omega, by have := (hho.each s hs).hi; have := HN2.out; omega⟩) ⟨by have := hho.out; omega⟩).mono fun e w' x => ⟨x.1, x.2.pre hc⟩
      have htx : ∀ W, Calls Try.prog 25 #[.int .i64 ((o.size : Int) % 3500), .int .i64 ((i : Int) + 1)] W fun e w' => e = .returned (.string (textB (o.size % 3500) (i + 1))) ∧ Chg (fun _ => False) W w' := fun W => by
        have h := text_any (o.size % 3500) (i + 1) W (by omega) (by have := HIN.out; omega)
        rw [show ((o.size % 3500 : Nat) : Int) = (o.size : Int) % 3500 by omega, show ((i + 1 : Nat) : Int) = (i : Int) + 1 by omega] at h
        exact h
      have s0 : (0 : Int) ≤ (o.size : Int) := Int.natCast_nonneg _
      have s1 : (o.size : Int) ≤ 65535 := by have := HO.out.s; omega
      have t0 : (0 : Int) ≤ (o.to_ : Int) := Int.natCast_nonneg _
      have t1 : (o.to_ : Int) ≤ 255 := by have := HO.out.t; omega
      have wa : IntKind.i64.wrap ((o.to_ : Int) % 4 - 1) = (o.to_ : Int) % 4 - 1 := IntWalk.i64_in _ (by omega)
      have wb : IntKind.i64.wrap ((o.to_ : Int) % 4 - 1 + (o.at_ : Int) % 2) = (o.to_ : Int) % 4 - 1 + (o.at_ : Int) % 2 := IntWalk.i64_in _ (by omega)
      have ws : (IntKind.i64.wrap (o.size : Int)).tmod 3500 = (o.size : Int) % 3500 := by rw [IntWalk.i64_in _ (by omega)]; exact Int.tmod_eq_emod_of_nonneg s0
      have wt : (IntKind.i64.wrap (o.to_ : Int)).tmod 4 = (o.to_ : Int) % 4 := by rw [IntWalk.i64_in _ (by omega)]; exact Int.tmod_eq_emod_of_nonneg t0
      have wat : (o.at_ : Int).tmod 2 = (o.at_ : Int) % 2 := Int.tmod_eq_emod_of_nonneg a0
      obtain ⟨G, hN, -, -⟩ := HH3.out.field wdR_n (by show 0 < 11; decide)
      have c10 := hN.cells (cs := []) 0 _ rfl
      rw [HD1.out] at c10
      have HC := Lib.hid hha
      have HTX := Lib.hid htx
      clear hho HS3 hN hha htx
      go_upto_region 18 with fail
      have HS0 : Hid (w3.cell? ⟨ob, 4, none⟩ = some (.int .u16 o.size) ∧ w3.cell? ⟨ob, 2, none⟩ = some (.int .u8 o.to_) ∧ w3.cell? ⟨b, 10, none⟩ = some (.int .i64 ((i : Int) + 1))) := Lib.hid ⟨cell_of_block (i := 4) HB3.out rfl, cell_of_block (i := 2) HB3.out rfl, c10⟩
      clear c10
      refine wp_region_held_split 19 (fun w' => w'.cell? ⟨ob, 4, none⟩ = some (.int .u16 o.size) ∧ w'.cell? ⟨ob, 2, none⟩ = some (.int .u8 o.to_) ∧ w'.cell? ⟨b, 10, none⟩ = some (.int .i64 ((i : Int) + 1))) (by kernel_rfl) (by kernel_rfl) ?_ (fun hHeld => ?_)
      · (first | exact HS0.out | exact HKS.out _ (Chg.refl _ _) | exact HKS.out _ hct)
      simp only [List.take_succ_cons, List.take_zero]
      have HKS : Hid (∀ W, Chg (fun _ => False) w3.drew W → W.cell? ⟨ob, 4, none⟩ = some (.int .u16 o.size) ∧ W.cell? ⟨ob, 2, none⟩ = some (.int .u8 o.to_) ∧ W.cell? ⟨b, 10, none⟩ = some (.int .i64 ((i : Int) + 1))) := Lib.hid (fun W hc => ⟨hc.cell HS0.out.1, hc.cell HS0.out.2.1, hc.cell HS0.out.2.2⟩)
      have HWD : Hid (Chg (fun _ => False) w3 w3.drew) := Lib.hid (Chg.refl _ w3).drewR
      generalize w3.drew = wD at *
      refine wpAnyH_take (i := 0) (v := ?_) rfl (by kernel_rfl) (by kernel_rfl) (by kernel_rfl) (fun _ _ _ h => h) (Or.inl ⟨by rfl, ?_⟩) (by assumption) ?_
      rotate_left
      · (intro wq hSw; (try dsimp only at hSw); go_simp; (try with_reducible rfl))
      simp only [Act.put, List.getElem_toArray, List.getElem_cons_zero, List.getElem_cons_succ, List.setIfInBounds_toArray, List.set_cons_zero, List.set_cons_succ]
      refine wpAnyH_take (i := 1) (v := ?_) rfl (by kernel_rfl) (by kernel_rfl) (by kernel_rfl) (fun _ _ _ h => h) (Or.inl ⟨by rfl, ?_⟩) (by assumption) ?_
      rotate_left
      · (intro wq hSw; (try dsimp only at hSw); go_simp; (try with_reducible rfl))
      simp only [Act.put, List.getElem_toArray, List.getElem_cons_zero, List.getElem_cons_succ, List.setIfInBounds_toArray, List.set_cons_zero, List.set_cons_succ]
      refine wpAnyH_take (i := 2) (v := ?_) rfl (by kernel_rfl) (by kernel_rfl) (by kernel_rfl) (fun _ _ _ h => h) (Or.inl ⟨by rfl, ?_⟩) (by assumption) ?_
      rotate_left
      · (intro wq hSw; (try dsimp only at hSw); go_simp; (try with_reducible rfl))
      simp only [Act.put, List.getElem_toArray, List.getElem_cons_zero, List.getElem_cons_succ, List.setIfInBounds_toArray, List.set_cons_zero, List.set_cons_succ]
      refine wpAnyH_take (i := 3) (v := ?_) rfl (by kernel_rfl) (by kernel_rfl) (by kernel_rfl) (fun _ _ _ h => h) (Or.inl ⟨by rfl, ?_⟩) (by assumption) ?_
      rotate_left
      · (intro wq hSw; (try dsimp only at hSw); go_simp; (try with_reducible rfl))
      simp only [Act.put, List.getElem_toArray, List.getElem_cons_zero, List.getElem_cons_succ, List.setIfInBounds_toArray, List.set_cons_zero, List.set_cons_succ]
      refine wpAnyH_take (i := 4) (v := ?_) rfl (by kernel_rfl) (by kernel_rfl) (by kernel_rfl) (fun _ _ _ h => h) (Or.inl ⟨by rfl, ?_⟩) (by assumption) ?_
      rotate_left
      · (intro wq hSw; (try dsimp only at hSw); go_simp; (try with_reducible rfl))
      simp only [Act.put, List.getElem_toArray, List.getElem_cons_zero, List.getElem_cons_succ, List.setIfInBounds_toArray, List.set_cons_zero, List.set_cons_succ]
      refine wpAnyH_take (i := 5) (v := ?_) rfl (by kernel_rfl) (by kernel_rfl) (by kernel_rfl) (fun _ _ _ h => h) (Or.inl ⟨by rfl, ?_⟩) (by assumption) ?_
      rotate_left
      · (intro wq hSw; (try dsimp only at hSw); go_simp; (try with_reducible rfl))
      simp only [Act.put, List.getElem_toArray, List.getElem_cons_zero, List.getElem_cons_succ, List.setIfInBounds_toArray, List.set_cons_zero, List.set_cons_succ]
      refine wpAnyH_take (i := 6) (v := ?_) rfl (by kernel_rfl) (by kernel_rfl) (by kernel_rfl) (fun _ _ _ h => h) (Or.inl ⟨by rfl, ?_⟩) (by assumption) ?_
      rotate_left
      · (intro wq hSw; (try dsimp only at hSw); go_simp; (try with_reducible rfl))
      simp only [Act.put, List.getElem_toArray, List.getElem_cons_zero, List.getElem_cons_succ, List.setIfInBounds_toArray, List.set_cons_zero, List.set_cons_succ]
      refine wpAnyH_take (i := 7) (v := ?_) rfl (by kernel_rfl) (by kernel_rfl) (by kernel_rfl) (fun _ _ _ h => h) (Or.inl ⟨by rfl, ?_⟩) (by assumption) ?_
      rotate_left
      · (intro wq hSw; (try dsimp only at hSw); go_simp; (try with_reducible rfl))
      simp only [Act.put, List.getElem_toArray, List.getElem_cons_zero, List.getElem_cons_succ, List.setIfInBounds_toArray, List.set_cons_zero, List.set_cons_succ]
      refine wpAnyH_take (i := 8) (v := ?_) rfl (by kernel_rfl) (by kernel_rfl) (by kernel_rfl) (fun _ _ _ h => h) (Or.inl ⟨by rfl, ?_⟩) (by assumption) ?_
      rotate_left
      · (intro wq hSw; (try dsimp only at hSw); go_simp; (try with_reducible rfl))
      simp only [Act.put, List.getElem_toArray, List.getElem_cons_zero, List.getElem_cons_succ, List.setIfInBounds_toArray, List.set_cons_zero, List.set_cons_succ]
      refine wpAnyH_take (i := 9) (v := ?_) rfl (by kernel_rfl) (by kernel_rfl) (by kernel_rfl) (fun _ _ _ h => h) (Or.inl ⟨by rfl, ?_⟩) (by assumption) ?_
      rotate_left
      · (intro wq hSw; (try dsimp only at hSw); go_simp; (try with_reducible rfl))
      simp only [Act.put, List.getElem_toArray, List.getElem_cons_zero, List.getElem_cons_succ, List.setIfInBounds_toArray, List.set_cons_zero, List.set_cons_succ]
      refine wpAnyH_take (i := 11) (v := ?_) rfl (by kernel_rfl) (by kernel_rfl) (by kernel_rfl) (fun _ _ _ h => h) (Or.inl ⟨by rfl, ?_⟩) (by assumption) ?_
      rotate_left
      · (intro wq hSw; (try dsimp only at hSw); go_simp; (try with_reducible rfl))
      simp only [Act.put, List.getElem_toArray, List.getElem_cons_zero, List.getElem_cons_succ, List.setIfInBounds_toArray, List.set_cons_zero, List.set_cons_succ]
      refine wpAnyH_take (i := 12) (v := ?_) rfl (by kernel_rfl) (by kernel_rfl) (by kernel_rfl) (fun _ _ _ h => h) (Or.inl ⟨by rfl, ?_⟩) (by assumption) ?_
      rotate_left
      · (intro wq hSw; (try dsimp only at hSw); go_simp; (try with_reducible rfl))
      simp only [Act.put, List.getElem_toArray, List.getElem_cons_zero, List.getElem_cons_succ, List.setIfInBounds_toArray, List.set_cons_zero, List.set_cons_succ]
      refine wpAnyH_take (i := 13) (v := ?_) rfl (by kernel_rfl) (by kernel_rfl) (by kernel_rfl) (fun _ _ _ h => h) (Or.inl ⟨by rfl, ?_⟩) (by assumption) ?_
      rotate_left
      · (intro wq hSw; (try dsimp only at hSw); go_simp; (try with_reducible rfl))
      simp only [Act.put, List.getElem_toArray, List.getElem_cons_zero, List.getElem_cons_succ, List.setIfInBounds_toArray, List.set_cons_zero, List.set_cons_succ]
      refine wpAnyH_take (i := 14) (v := ?_) rfl (by kernel_rfl) (by kernel_rfl) (by kernel_rfl) (fun _ _ _ h => h) (Or.inl ⟨by rfl, ?_⟩) (by assumption) ?_
      rotate_left
      · (intro wq hSw; (try dsimp only at hSw); go_simp; (try with_reducible rfl))
      simp only [Act.put, List.getElem_toArray, List.getElem_cons_zero, List.getElem_cons_succ, List.setIfInBounds_toArray, List.set_cons_zero, List.set_cons_succ]
      refine wpAnyH_take (i := 15) (v := ?_) rfl (by kernel_rfl) (by kernel_rfl) (by kernel_rfl) (fun _ _ _ h => h) (Or.inl ⟨by rfl, ?_⟩) (by assumption) ?_
      rotate_left
      · (intro wq hSw; (try dsimp only at hSw); go_simp; (try with_reducible rfl))
      simp only [Act.put, List.getElem_toArray, List.getElem_cons_zero, List.getElem_cons_succ, List.setIfInBounds_toArray, List.set_cons_zero, List.set_cons_succ]
      refine wpAnyH_take (i := 16) (v := ?_) rfl (by kernel_rfl) (by kernel_rfl) (by kernel_rfl) (fun _ _ _ h => h) (Or.inl ⟨by rfl, ?_⟩) (by assumption) ?_
      rotate_left
      · (intro wq hSw; (try dsimp only at hSw); go_simp; (try with_reducible rfl))
      simp only [Act.put, List.getElem_toArray, List.getElem_cons_zero, List.getElem_cons_succ, List.setIfInBounds_toArray, List.set_cons_zero, List.set_cons_succ]
      refine wpAnyH_take (i := 17) (v := ?_) rfl (by kernel_rfl) (by kernel_rfl) (by kernel_rfl) (fun _ _ _ h => h) (Or.inl ⟨by rfl, ?_⟩) (by assumption) ?_
      rotate_left
      · (intro wq hSw; (try dsimp only at hSw); go_simp; (try with_reducible rfl))
      simp only [Act.put, List.getElem_toArray, List.getElem_cons_zero, List.getElem_cons_succ, List.setIfInBounds_toArray, List.set_cons_zero, List.set_cons_succ]
      refine wpAnyH_take (i := 18) (v := ?_) rfl (by kernel_rfl) (by kernel_rfl) (by kernel_rfl) (fun _ _ _ h => h) (Or.inl ⟨by rfl, ?_⟩) (by assumption) ?_
      rotate_left
      · (intro wq hSw; (try dsimp only at hSw); go_simp; (try with_reducible rfl))
      simp only [Act.put, List.getElem_toArray, List.getElem_cons_zero, List.getElem_cons_succ, List.setIfInBounds_toArray, List.set_cons_zero, List.set_cons_succ]
      refine wpAnyH_ready (rs := [10]) (by kernel_rfl) (by simp) ?_
      refine AllReadyH.cons (by simp only [List.getElem?_toArray, List.getElem?_cons_succ, List.getElem?_cons_zero]; rfl) (fun K hK => ?_) AllReadyH.nil
      (go_simp; go_at_call 25; (try rw [ws]); refine (HTX.out _).mono ?_; rintro _ wt ⟨rfl, hct⟩; go_simp)
      refine hK.out _ _ ?_ (fun hHeld => ?_)
      · (first | exact HS0.out | exact HKS.out _ (Chg.refl _ _) | exact HKS.out _ hct)
      clear hK K
      (try simp only [Act.put, List.getElem_toArray, List.getElem_cons_zero, List.getElem_cons_succ, List.setIfInBounds_toArray, List.set_cons_zero, List.set_cons_succ])
      refine wpAnyH_done (by kernel_rfl) ?_ _
      change wpList _ _ _ _ _ _
      simp only [List.drop_succ_cons, List.drop_zero]
      have HC2 := Lib.hid (HC.out _ (HWD.out.trans' hct))
      clear hct
      go_wp2_with fail
      refine HC2.out.mono ?_
      rintro e w4 ⟨rfl, hp4⟩
      have hp5 := (HBK.out _ _ hp4).1
      obtain ⟨F4, H4, S4⟩ := hp5
      have hcl := collect_any w4 b _ F4 H4 (HIC.out.bd.collectOk (by have := HK.out; omega))
      have hP4 : ∀ d' w', WdPost w4 b d' F4 w' → WdPost w b d' F w' := fun d' w' hp => HP3.out _ _ (by obtain ⟨F5, z1, z2⟩ := hp; exact ⟨F5, z1, S4.trans z2⟩)
      have HCL := Lib.hid hcl
      have HP4 := Lib.hid hP4
      clear hcl hP4 hp4 H4 S4 HBK HC HP3 HH3
      go_wp2_with fail
      refine HCL.out.mono ?_
      rintro e w5 ⟨rfl, hp⟩
      have HF := Lib.hid (HP4.out _ _ hp)
      clear hp HCL HP4
      go_wp2_with fail
      go_ret
      rw [HDO.out]
      exact ⟨rfl, HF.out⟩
  · as_aux_lemma =>
      have HDO : Hid (doM d1 o (i + 1) = ((withdrawM (d1.host q) (nameB o.page)).1, collectM (d1.put q (withdrawM (d1.host q) (nameB o.page)).2))) := Lib.hid (by
        have hk7 : o.kind % 7 = 1 := by have := HR.out; omega
        unfold doM callM
        rw [hk7, HQ.out]
        rfl)
      have hic : WdI (n + 1) k 20000 (d1.put q (withdrawM (d1.host q) (nameB o.page)).2) := by
        have h1 := HI.out.call HN1.out HN2.out q o (i + 1)
        have hk7 : o.kind % 7 = 1 := by have := HR.out; omega
        unfold callM at h1
        rw [hk7] at h1
        exact h1
      have HIC := Lib.hid hic
      have hho := HI.out.bd.host q
      obtain ⟨G3, HS3, -, hback⟩ := wdHost HH3.out q HQL.out
      have HBK := Lib.hid hback
      clear hic hback
      have hca := withdraw_any w3 b (q * 3) _ G3 (nameB o.page) HS3 ⟨by have := hho.out; omega⟩
      have HC := Lib.hid hca
      clear hca hho HS3
      go_wp2_with fail
      refine HC.out.mono ?_
      rintro e w4 ⟨rfl, hp4⟩
      have hp5 := (HBK.out _ _ hp4).1
      obtain ⟨F4, H4, S4⟩ := hp5
      have hcl := collect_any w4 b _ F4 H4 (HIC.out.bd.collectOk (by have := HK.out; omega))
      have hP4 : ∀ d' w', WdPost w4 b d' F4 w' → WdPost w b d' F w' := fun d' w' hp => HP3.out _ _ (by obtain ⟨F5, z1, z2⟩ := hp; exact ⟨F5, z1, S4.trans z2⟩)
      have HCL := Lib.hid hcl
      have HP4 := Lib.hid hP4
      clear hcl hP4 hp4 H4 S4 HBK HC HP3 HH3
      go_wp2_with fail
      refine HCL.out.mono ?_
      rintro e w5 ⟨rfl, hp⟩
      have HF := Lib.hid (HP4.out _ _ hp)
      clear hp HCL HP4
      go_wp2_with fail
      go_ret
      rw [HDO.out]
      exact ⟨rfl, HF.out⟩
  · as_aux_lemma =>
      have HDO : Hid (doM d1 o (i + 1) = ((((0 : Int), tickM (d1.host q))).1, collectM (d1.put q (((0 : Int), tickM (d1.host q))).2))) := Lib.hid (by
        have hk7 : o.kind % 7 = 2 := by have := HR.out; omega
        unfold doM callM
        rw [hk7, HQ.out]
        rfl)
      have hic : WdI (n + 1) k 20000 (d1.put q (((0 : Int), tickM (d1.host q))).2) := by
        have h1 := HI.out.call HN1.out HN2.out q o (i + 1)
        have hk7 : o.kind % 7 = 2 := by have := HR.out; omega
        unfold callM at h1
        rw [hk7] at h1
        exact h1
      have HIC := Lib.hid hic
      have hho := HI.out.bd.host q
      obtain ⟨G3, HS3, -, hback⟩ := wdHost HH3.out q HQL.out
      have HBK := Lib.hid hback
      clear hic hback
      have hca := tick_any w3 b (q * 3) _ G3 HS3 (hho.ok (by have := HN2.out; omega) (by omega)) (by have := hho.out; have := hho.seats; have := HN2.out; omega)
      have HC := Lib.hid hca
      clear hca hho HS3
      go_wp2_with fail
      refine HC.out.mono ?_
      rintro e w4 ⟨rfl, hp4⟩
      have hp5 := (HBK.out _ _ hp4).1
      obtain ⟨F4, H4, S4⟩ := hp5
      have hcl := collect_any w4 b _ F4 H4 (HIC.out.bd.collectOk (by have := HK.out; omega))
      have hP4 : ∀ d' w', WdPost w4 b d' F4 w' → WdPost w b d' F w' := fun d' w' hp => HP3.out _ _ (by obtain ⟨F5, z1, z2⟩ := hp; exact ⟨F5, z1, S4.trans z2⟩)
      have HCL := Lib.hid hcl
      have HP4 := Lib.hid hP4
      clear hcl hP4 hp4 H4 S4 HBK HC HP3 HH3
      go_wp2_with fail
      refine HCL.out.mono ?_
      rintro e w5 ⟨rfl, hp⟩
      have HF := Lib.hid (HP4.out _ _ hp)
      clear hp HCL HP4
      go_wp2_with fail
      go_ret
      rw [HDO.out]
      exact ⟨rfl, HF.out⟩
  · as_aux_lemma =>
      have HDO : Hid (doM d1 o (i + 1) = ((startM (d1.host q) (nameB o.page)).1, collectM (d1.put q (startM (d1.host q) (nameB o.page)).2))) := Lib.hid (by
        have hk7 : o.kind % 7 = 6 := by have := HR.out; omega
        unfold doM callM
        rw [hk7, HQ.out]
        rfl)
      have hic : WdI (n + 1) k 20000 (d1.put q (startM (d1.host q) (nameB o.page)).2) := by
        have h1 := HI.out.call HN1.out HN2.out q o (i + 1)
        have hk7 : o.kind % 7 = 6 := by have := HR.out; omega
        unfold callM at h1
        rw [hk7] at h1
        exact h1
      have HIC := Lib.hid hic
      have hho := HI.out.bd.host q
      obtain ⟨G3, HS3, -, hback⟩ := wdHost HH3.out q HQL.out
      have HBK := Lib.hid hback
      clear hic hback
      have hca := start_any w3 b (q * 3) _ G3 (nameB o.page) HS3 (by have := nameB_size o.page; omega) ⟨by have := hho.seats; have := HN2.out; omega⟩
      have HC := Lib.hid hca
      clear hca hho HS3
      go_wp2_with fail
      refine HC.out.mono ?_
      rintro e w4 ⟨rfl, hp4⟩
      have hp5 := (HBK.out _ _ hp4).1
      obtain ⟨F4, H4, S4⟩ := hp5
      have hcl := collect_any w4 b _ F4 H4 (HIC.out.bd.collectOk (by have := HK.out; omega))
      have hP4 : ∀ d' w', WdPost w4 b d' F4 w' → WdPost w b d' F w' := fun d' w' hp => HP3.out _ _ (by obtain ⟨F5, z1, z2⟩ := hp; exact ⟨F5, z1, S4.trans z2⟩)
      have HCL := Lib.hid hcl
      have HP4 := Lib.hid hP4
      clear hcl hP4 hp4 H4 S4 HBK HC HP3 HH3
      go_wp2_with fail
      refine HCL.out.mono ?_
      rintro e w5 ⟨rfl, hp⟩
      have HF := Lib.hid (HP4.out _ _ hp)
      clear hp HCL HP4
      go_wp2_with fail
      go_ret
      rw [HDO.out]
      exact ⟨rfl, HF.out⟩
  ·
      have e0 : (r == 0) = false := by simp; omega
      have e1 : (r == 1) = false := by simp; omega
      have e2 : (r == 2) = false := by simp; omega
      have e6 : (r == 6) = false := by simp; omega
      have m0 : w3.cell? ⟨ob, 0, none⟩ = some (.int .u8 o.kind) := cell_of_block (i := 0) HB3.out rfl
      have hr := HR.out
      have k0 : (0 : Int) ≤ (o.kind : Int) := Int.natCast_nonneg _
      have hnd : ¬ (o.kind % 7 < 3 ∨ o.kind % 7 = 6) := by omega
      have HND := Lib.hid hnd
      have H345 := Lib.hid h345
      clear hnd h345
      obtain ⟨G9, HW9, -, hback9⟩ := wdWay HH3.out
      have hnb9 := HW9.nb
      obtain ⟨v9, xs9, Fs9, cw9, hop9⟩ := HW9.openRow
      obtain ⟨a9, cap9, rfl, hle9, hcap9⟩ := hop9.val
      obtain ⟨hrow9, -, -⟩ := hop9.flat
      have hnb : ¬ (Value.slice a9 d1.way.length cap9).ownBlock = some b := fun e => hnb9 (by rw [hop9.fp]; exact List.mem_append_left _ (mem_ownL.2 e))
      have HNB := Lib.hid hnb
      have HROW := Lib.hid hrow9
      clear HW9 hback9 hnb9 hop9 hnb hrow9
      by_cases hw : d1.way = []
      · have HDO : Hid (doM d1 o (i + 1) = (0, d1)) := Lib.hid (by
          unfold doM
          rw [if_neg HND.out, hw]
          rfl)
        rw [hw] at cw9
        simp only [List.length_nil] at cw9
        have HFI := Lib.hid (HP3.out _ _ (wdStill HH3.out (Chg.refl _ _)))
        clear hw
        go_wp2_with fail
        go_ret
        rw [HDO.out]
        exact ⟨rfl, HFI.out⟩
      have hpos : 0 < d1.way.length := List.length_pos_iff.2 hw
      obtain ⟨g, off, cap3, hv, -, -⟩ := RowAt.addr HROW.out hpos
      cases hv
      obtain ⟨j, hj⟩ : ∃ j : Nat, o.at_ % d1.way.length = j := ⟨_, rfl⟩
      have hjl : j < d1.way.length := by rw [← hj]; exact Nat.mod_lt _ hpos
      have hN2 : (d1.way.length : Int) ≤ 1000000000 := by have := HI.out.bd.len; have := HK.out; omega
      have hj2 : (o.at_ : Int) % (d1.way.length : Int) = (j : Int) := by rw [← hj]; exact (Int.natCast_emod _ _).symm
      have hcell : ∀ (y : Nat) (u : Value), d1.way[j].cells[y]? = some u → w3.cell? ⟨g, off + j * 8 + y, none⟩ = some u := fun y u hu => by
        have hy : y < 8 := by have := (List.getElem?_eq_some_iff.1 hu).1; rw [Msg.len] at this; exact this
        have := HROW.out.cellAt (j * 8 + y) u (by rw [flat_get Msg.cells 8 Msg.len d1.way j y hjl hy]; exact hu)
        rw [← Nat.add_assoc] at this
        exact this
      have hdst := HI.out.dst _ (List.getElem_mem hjl)
      have hmin := HI.out.bd.ways _ (List.getElem_mem hjl)
      have hget : d1.way[o.at_ % d1.way.length]? = some d1.way[j] := by rw [hj, List.getElem?_eq_getElem hjl]
      generalize hm : d1.way[j] = m at *
      have HGET := Lib.hid hget
      have HDST := Lib.hid hdst
      have HMIN := Lib.hid hmin
      have hN0 : (0 : Int) < (d1.way.length : Int) := by omega
      have hdo : ∀ x, (match d1.way[o.at_ % d1.way.length]? with
        | none => ((0 : Int), d1)
        | some m => if o.kind % 7 = 5 then (0, { d1 with way := d1.way ++ [m] }) else if o.kind % 7 = 3 then (0, collectM (recvW (cutW d1 (o.at_ % d1.way.length)) m)) else (0, collectM (cutW d1 (o.at_ % d1.way.length)))) = x → doM d1 o (i + 1) = x := fun x hx => by
        unfold doM
        rw [if_neg HND.out]
        exact hx
      rw [hget] at hdo
      simp only [hj] at hdo
      have HDOO := Lib.hid hdo
      obtain ⟨N, hN⟩ : ∃ N, d1.way.length = N := ⟨_, rfl⟩
      have HNN := Lib.hid hN
      rw [hN] at cw9 hN0 hN2 hle9 hj2
      have HROWN : Hid (RowAt w3 39 8 (.slice (some ⟨g, off, none⟩) N cap9) N (d1.way.flatMap Msg.cells)) := Lib.hid (by rw [← hN]; exact HROW.out)
      have HNBN : Hid (¬ (Value.slice (some ⟨g, off, none⟩) N cap9).ownBlock = some b) := Lib.hid HNB.out
      have HJN : Hid (j < N) := Lib.hid (by omega)
      clear hw hpos hj hjl hget hdst hmin hdo hN HROW HNB hm
      have b0 := hcell 0 _ rfl
      have b1 := hcell 1 _ rfl
      have b2 := hcell 2 _ rfl
      have b3 := hcell 3 _ rfl
      have b4 := hcell 4 _ rfl
      have b5 := hcell 5 _ rfl
      have b6 := hcell 6 _ rfl
      have b7 := hcell 7 _ rfl
      rw [Nat.add_zero] at b0
      have j0 : (0 : Int) ≤ (j : Int) := Int.natCast_nonneg _
      have j1 : (j : Int) < (N : Int) := by have := HJN.out; omega
      have HC9 := Lib.hid cw9
      clear hcap9
      clear hcell
      go_upto_region 10 with fail
      clear m0
      rw [hj2]
      clear hj2 hN0
      go_upto_region 11 with fail
      have hbm := alloc_block w3 (.cells #[.int .i64 m.kind, .int .i64 m.frm, .int .i64 m.dst, .string m.page, .int .i64 m.epoch, .int .i64 m.index, .int .i64 m.count, .string m.data] 39)
      have hcm := Chg.alloc (fun _ => False) w3 (.cells #[.int .i64 m.kind, .int .i64 m.frm, .int .i64 m.dst, .string m.page, .int .i64 m.epoch, .int .i64 m.index, .int .i64 m.count, .string m.data] 39)
      have hsm := lt_of_block HB3.out
      generalize hmb : w3.heap.size = mb at *
      generalize w3.alloc (.cells #[.int .i64 m.kind, .int .i64 m.frm, .int .i64 m.dst, .string m.page, .int .i64 m.epoch, .int .i64 m.index, .int .i64 m.count, .string m.data] 39) = w4 at *
      have H4 := HH3.out.still hcm
      have hb4 := hcm.keep HB3.out (fun x => x)
      have hmbl : b < mb := by have := HH3.out.lt.1; omega
      have hP4 : ∀ d' w', WdPost w4 b d' F2 w' → WdPost w b d' F w' := fun d' w' hp => HP3.out _ _ (hp.pre hcm)
      have d9 := hcm.cell HC9.out
      have hr4 := HROWN.out.chg hcm (fun _ _ x => x)
      have m0 : w4.cell? ⟨ob, 0, none⟩ = some (.int .u8 o.kind) := cell_of_block (i := 0) hb4 rfl
      have hnm : ¬ (Value.slice (some ⟨g, off, none⟩) N cap9).ownBlock = some mb := fun e => by have := HROWN.out.lt mb e; omega
      have HH4 := Lib.hid H4
      have HP4 := Lib.hid hP4
      have HB4 := Lib.hid hb4
      have HBM := Lib.hid hbm
      have HR4 := Lib.hid hr4
      have HMBL := Lib.hid hmbl
      have HNM := Lib.hid hnm
      have HD9 := Lib.hid d9
      clear b0 b1 b2 b3 b4 b5 b6 b7 cw9 hbm hcm hsm hmb H4 hb4 hmbl hP4 hr4 hnm HC9 HROWN HH3 HP3 HB3
      by_cases h5 : r = 5
      ·
          have e5 : (r == 5) = true := by simpa using h5
          have HDO : Hid (doM d1 o (i + 1) = (0, { d1 with way := d1.way ++ [m] })) := Lib.hid (HDOO.out _ (by rw [if_pos (by have := HR.out; omega)]))
          clear h5
          go_upto_region 12 with fail
          obtain ⟨G9, HW9, -, hback9⟩ := wdWay HH4.out
          obtain ⟨a9', cap9', q9, hrow9, -, -, f9, haft9⟩ := outAppending HW9
          rw [HNN.out] at q9 hrow9 haft9
          rw [HD9.out] at q9
          cases q9
          have HAFT := Lib.hid haft9
          have HBK := Lib.hid hback9
          have HS0 : Hid (w4.cell? ⟨b, 9, none⟩ = some (.slice (some ⟨g, off, none⟩) N cap9) ∧ w4.cell? ⟨mb, 0, none⟩ = some (.int .i64 m.kind) ∧ w4.cell? ⟨mb, 1, none⟩ = some (.int .i64 m.frm) ∧ w4.cell? ⟨mb, 2, none⟩ = some (.int .i64 m.dst) ∧ w4.cell? ⟨mb, 3, none⟩ = some (.string m.page) ∧ w4.cell? ⟨mb, 4, none⟩ = some (.int .i64 m.epoch) ∧ w4.cell? ⟨mb, 5, none⟩ = some (.int .i64 m.index) ∧ w4.cell? ⟨mb, 6, none⟩ = some (.int .i64 m.count) ∧ w4.cell? ⟨mb, 7, none⟩ = some (.string m.data)) := Lib.hid ⟨HD9.out, cell_of_block (i := 0) HBM.out rfl, cell_of_block (i := 1) HBM.out rfl, cell_of_block (i := 2) HBM.out rfl, cell_of_block (i := 3) HBM.out rfl, cell_of_block (i := 4) HBM.out rfl, cell_of_block (i := 5) HBM.out rfl, cell_of_block (i := 6) HBM.out rfl, cell_of_block (i := 7) HBM.out rfl⟩
          obtain ⟨cb, Tb, hbx⟩ := HH4.out.boxed
          have hcb : cb[9]? = some (.slice (some ⟨g, off, none⟩) N cap9) := by have := HD9.out; simpa [World.cell?, hbx] using this
          have HBX := Lib.hid hbx
          have HCB := Lib.hid hcb
          clear hrow9 haft9 hback9 HW9 f9 d9 m0 hbx hcb
          refine wp_region_held_split 10 (fun w' => w'.cell? ⟨b, 9, none⟩ = some (.slice (some ⟨g, off, none⟩) N cap9) ∧ w'.cell? ⟨mb, 0, none⟩ = some (.int .i64 m.kind) ∧ w'.cell? ⟨mb, 1, none⟩ = some (.int .i64 m.frm) ∧ w'.cell? ⟨mb, 2, none⟩ = some (.int .i64 m.dst) ∧ w'.cell? ⟨mb, 3, none⟩ = some (.string m.page) ∧ w'.cell? ⟨mb, 4, none⟩ = some (.int .i64 m.epoch) ∧ w'.cell? ⟨mb, 5, none⟩ = some (.int .i64 m.index) ∧ w'.cell? ⟨mb, 6, none⟩ = some (.int .i64 m.count) ∧ w'.cell? ⟨mb, 7, none⟩ = some (.string m.data)) (by kernel_rfl) (by kernel_rfl) ?_ (fun hHeld => ?_)
          · (first | with_reducible exact hkq | with_reducible exact HS0.out | with_reducible exact HKS.out _ HA0.out | exact HS0.out)
          simp only [List.take_succ_cons, List.take_zero]
          have HCD : Hid (Chg (fun _ => False) w4 w4.drew) := Lib.hid (Chg.refl _ w4).drewR
          have HRD := Lib.hid HR4.out.drew
          have HBD := Lib.hid (HCD.out.keep HBX.out (fun x => x))
          have HMD := Lib.hid (HCD.out.keep HBM.out (fun x => x))
          generalize w4.drew = wD at *
          have HKS : Hid (∀ W, Chg (fun k => (Value.slice (some ⟨g, off, none⟩) N cap9).ownBlock = some k) wD W → W.cell? ⟨b, 9, none⟩ = some (.slice (some ⟨g, off, none⟩) N cap9) ∧ W.cell? ⟨mb, 0, none⟩ = some (.int .i64 m.kind) ∧ W.cell? ⟨mb, 1, none⟩ = some (.int .i64 m.frm) ∧ W.cell? ⟨mb, 2, none⟩ = some (.int .i64 m.dst) ∧ W.cell? ⟨mb, 3, none⟩ = some (.string m.page) ∧ W.cell? ⟨mb, 4, none⟩ = some (.int .i64 m.epoch) ∧ W.cell? ⟨mb, 5, none⟩ = some (.int .i64 m.index) ∧ W.cell? ⟨mb, 6, none⟩ = some (.int .i64 m.count) ∧ W.cell? ⟨mb, 7, none⟩ = some (.string m.data)) := Lib.hid (fun W hc => by
            have hb := hc.keep HBD.out HNBN.out
            have hs := hc.keep HMD.out HNM.out
            exact ⟨cell_of_block (i := 9) hb HCB.out, cell_of_block (i := 0) hs rfl, cell_of_block (i := 1) hs rfl, cell_of_block (i := 2) hs rfl, cell_of_block (i := 3) hs rfl, cell_of_block (i := 4) hs rfl, cell_of_block (i := 5) hs rfl, cell_of_block (i := 6) hs rfl, cell_of_block (i := 7) hs rfl⟩)
          have HA0 := Lib.hid (Chg.alloc (fun k => (Value.slice (some ⟨g, off, none⟩) N cap9).ownBlock = some k) wD (.cells #[.int .i64 m.kind, .int .i64 m.frm, .int .i64 m.dst, .string m.page, .int .i64 m.epoch, .int .i64 m.index, .int .i64 m.count, .string m.data] 39))
          have HAF := Lib.hid (Chg.alloc (fun _ => False) wD (.cells #[.int .i64 m.kind, .int .i64 m.frm, .int .i64 m.dst, .string m.page, .int .i64 m.epoch, .int .i64 m.index, .int .i64 m.count, .string m.data] 39))
          have HRA := Lib.hid (HRD.out.alloc (.cells #[.int .i64 m.kind, .int .i64 m.frm, .int .i64 m.dst, .string m.page, .int .i64 m.epoch, .int .i64 m.index, .int .i64 m.count, .string m.data] 39))
          have HGA := Lib.hid (alloc_block wD (.cells #[.int .i64 m.kind, .int .i64 m.frm, .int .i64 m.dst, .string m.page, .int .i64 m.epoch, .int .i64 m.index, .int .i64 m.count, .string m.data] 39))
          have HCA := Lib.hid (HCD.out.trans' HAF.out)
          have HE := Lib.hid elem_msg
          refine wpAnyH_take (i := 0) (v := ?_) rfl (by kernel_rfl) (by kernel_rfl) (by kernel_rfl) (fun _ _ _ h => h) (Or.inl ⟨by rfl, ?_⟩) (by assumption) ?_
          rotate_left
          · (intro wq hSw; (try dsimp only at hSw); go_simp; (try with_reducible rfl))
          simp only [Act.put, List.getElem_toArray, List.getElem_cons_zero, List.getElem_cons_succ, List.setIfInBounds_toArray, List.set_cons_zero, List.set_cons_succ]
          refine wpAnyH_take (i := 1) (v := ?_) rfl (by kernel_rfl) (by kernel_rfl) (by kernel_rfl) (fun _ _ _ h => h) (Or.inl ⟨by rfl, ?_⟩) (by assumption) ?_
          rotate_left
          · (intro wq hSw; (try dsimp only at hSw); go_simp; (try with_reducible rfl))
          simp only [Act.put, List.getElem_toArray, List.getElem_cons_zero, List.getElem_cons_succ, List.setIfInBounds_toArray, List.set_cons_zero, List.set_cons_succ]
          refine wpAnyH_take (i := 2) (v := ?_) rfl (by kernel_rfl) (by kernel_rfl) (by kernel_rfl) (fun _ _ _ h => h) (Or.inl ⟨by rfl, ?_⟩) (by assumption) ?_
          rotate_left
          · (intro wq hSw; (try dsimp only at hSw); go_simp; (try with_reducible rfl))
          simp only [Act.put, List.getElem_toArray, List.getElem_cons_zero, List.getElem_cons_succ, List.setIfInBounds_toArray, List.set_cons_zero, List.set_cons_succ]
          refine wpAnyH_take (i := 3) (v := ?_) rfl (by kernel_rfl) (by kernel_rfl) (by kernel_rfl) (fun _ _ _ h => h) (Or.inl ⟨by rfl, ?_⟩) (by assumption) ?_
          rotate_left
          · (intro wq hSw; (try dsimp only at hSw); go_simp; (try with_reducible rfl))
          simp only [Act.put, List.getElem_toArray, List.getElem_cons_zero, List.getElem_cons_succ, List.setIfInBounds_toArray, List.set_cons_zero, List.set_cons_succ]
          refine wpAnyH_take (i := 4) (v := ?_) rfl (by kernel_rfl) (by kernel_rfl) (by kernel_rfl) (fun _ _ _ h => h) (Or.inl ⟨by rfl, ?_⟩) (by assumption) ?_
          rotate_left
          · (intro wq hSw; (try dsimp only at hSw); go_simp; (try with_reducible rfl))
          simp only [Act.put, List.getElem_toArray, List.getElem_cons_zero, List.getElem_cons_succ, List.setIfInBounds_toArray, List.set_cons_zero, List.set_cons_succ]
          refine wpAnyH_take (i := 5) (v := ?_) rfl (by kernel_rfl) (by kernel_rfl) (by kernel_rfl) (fun _ _ _ h => h) (Or.inl ⟨by rfl, ?_⟩) (by assumption) ?_
          rotate_left
          · (intro wq hSw; (try dsimp only at hSw); go_simp; (try with_reducible rfl))
          simp only [Act.put, List.getElem_toArray, List.getElem_cons_zero, List.getElem_cons_succ, List.setIfInBounds_toArray, List.set_cons_zero, List.set_cons_succ]
          refine wpAnyH_ready (rs := [6]) (by kernel_rfl) (by simp) ?_
          refine AllReadyH.cons (by simp only [List.getElem?_toArray, List.getElem?_cons_succ, List.getElem?_cons_zero]; rfl) (fun K hK => ?_) AllReadyH.nil
          go_simp
          refine hK.out _ _ ?_ (fun hHeld => ?_)
          · (first | with_reducible exact hkq | with_reducible exact HS0.out | with_reducible exact HKS.out _ HA0.out | exact HS0.out)
          clear hK K
          (try simp only [Act.put, List.getElem_toArray, List.getElem_cons_zero, List.getElem_cons_succ, List.setIfInBounds_toArray, List.set_cons_zero, List.set_cons_succ])
          refine wpAnyH_ready (rs := [7]) (by kernel_rfl) (by simp) ?_
          refine AllReadyH.cons (by simp only [List.getElem?_toArray, List.getElem?_cons_succ, List.getElem?_cons_zero]; rfl) (fun K hK => ?_) AllReadyH.nil
          (refine step_append_elem (by rfl) _ _ _ (by rfl) 39 8 80 Try.underlying24 HE.out (by decide) _ N (d1.way.flatMap Msg.cells) (by rfl) HRA.out [.int .i64 m.kind, .int .i64 m.frm, .int .i64 m.dst, .string m.page, .int .i64 m.epoch, .int .i64 m.index, .int .i64 m.count, .string m.data] rfl wD.heap.size 39 (0, 0) (by rfl) HGA.out (by simp [Value.oneCell']) (by unfold maxLen; omega) (by omega) ?_; intro a2 n2 c2 w5 hrow5 hch5 hold5; have hkq := HKS.out _ (HA0.out.trans hch5 (fun _ _ x => x) (fun _ _ x => x)))
          refine hK.out _ _ ?_ (fun hHeld => ?_)
          · (first | with_reducible exact hkq | with_reducible exact HS0.out | with_reducible exact HKS.out _ HA0.out | exact HS0.out)
          clear hK K
          (try simp only [Act.put, List.getElem_toArray, List.getElem_cons_zero, List.getElem_cons_succ, List.setIfInBounds_toArray, List.set_cons_zero, List.set_cons_succ])
          refine wpAnyH_take (i := 8) (v := ?_) rfl (by kernel_rfl) (by kernel_rfl) (by kernel_rfl) (fun _ _ _ h => h) (Or.inl ⟨by rfl, ?_⟩) (by assumption) ?_
          rotate_left
          · (intro wq hSw; (try dsimp only at hSw); go_simp; (try with_reducible rfl))
          simp only [Act.put, List.getElem_toArray, List.getElem_cons_zero, List.getElem_cons_succ, List.setIfInBounds_toArray, List.set_cons_zero, List.set_cons_succ]
          refine wpAnyH_take (i := 9) (v := ?_) rfl (by kernel_rfl) (by kernel_rfl) (by kernel_rfl) (fun _ _ _ h => h) (Or.inl ⟨by rfl, ?_⟩) (by assumption) ?_
          rotate_left
          · (intro wq hSw; (try dsimp only at hSw); go_simp; (try with_reducible rfl))
          simp only [Act.put, List.getElem_toArray, List.getElem_cons_zero, List.getElem_cons_succ, List.setIfInBounds_toArray, List.set_cons_zero, List.set_cons_succ]
          refine wpAnyH_done (by kernel_rfl) ?_ _
          change wpList _ _ _ _ _ _
          simp only [List.drop_succ_cons, List.drop_zero]
          obtain ⟨⟨G', k1, k2⟩, d95, fz5⟩ := HAFT.out _ w5 (.slice a2 n2 c2) [m] HCA.out (by simpa [Msg.cells] using hrow5) hch5 hold5
          have HFI := Lib.hid (HP4.out _ _ (HBK.out _ _ _ k1 k2))
          clear hrow5 hch5 hold5 k1 k2 hkq
          go_wp2_with fail
          go_ret
          rw [HDO.out]
          exact ⟨rfl, HFI.out⟩
      ·
          have e5 : (r == 5) = false := by simpa using h5
          have H34 : Hid (r = 3 ∨ r = 4) := Lib.hid (by have := H345.out; omega)
          have hjN := HJN.out
          have ht1 := fun W => run_takeS (P := Try.prog) W 24 39 8 Try.underlying24 (Try.sizeOf39 W) (some ⟨g, off, none⟩) N cap9 (j : Int) (by omega) (by omega)
          have ht2 := fun W => run_reslS (P := Try.prog) W 24 39 8 Try.underlying24 (Try.sizeOf39 W) (some ⟨g, off, none⟩) N cap9 ((j : Int) + 1) (by omega) (by omega)
          rw [Int.toNat_natCast] at ht1
          rw [show ((j : Int) + 1).toNat = j + 1 by omega] at ht2
          have wj : IntKind.i64.wrap ((j : Int) + 1) = (j : Int) + 1 := IntWalk.i64_in _ (by omega)
          clear h5
          go_upto_region 14 with fail
          have hcA := (Chg.alloc (fun _ => False) w4 (.cells #[] 39)).drewR
          have hRA := HR4.out.chg hcA (fun _ _ x => x)
          have hX := hRA.prefix (m := j) (by omega)
          have hY := HR4.out.suffix (d := j + 1) (by omega)
          rw [cells_take _ _ (by rw [HNN.out]; omega)] at hX
          rw [cells_skip _ _ (by rw [HNN.out]; omega)] at hY
          generalize hres : reslS 8 (some ⟨g, off, none⟩) N cap9 (j + 1) = vr at *
          have hA := (RowAt.freshAt w4 39 8 w4.heap.size rfl).drew
          have HA := Lib.hid hA
          have HX2 := Lib.hid hX
          have HY := Lib.hid hY
          have HCA := Lib.hid hcA
          have HE := Lib.hid elem_msg
          have d9A := hcA.cell d9
          clear hA hX hY hRA hcA hres hjN
          clear m0
          go_region_law ((first
            | (refine step_append_rows (by rfl) (.tmp 70) (.tmp 76) 24 (by rfl) 39 8 80 Try.underlying24 HE.out (by decide) _ 0 [] (by rfl) HA.out _ j _ (by rfl) HX2.out (msg_ones _) (by have := HJN.out; unfold maxLen; omega) (by have := HJN.out; omega) ?_; intro a2 n2 c2 w5 hrow4 hch4 hold4; have hc4 := HCA.out.fresh hch4 (own_at (Nat.le_refl w4.heap.size)); rw [Nat.zero_add, List.nil_append] at hrow4; have hn4 := own_ge hold4 (own_at (Nat.le_refl w4.heap.size)) HCA.out.size; have d94 := hc4.cell d9)
            | (refine step_append_rows (by rfl) (.tmp 77) (.tmp 84) 24 (by rfl) 39 8 80 Try.underlying24 HE.out (by decide) _ j _ (by rfl) hrow4 _ (N - (j + 1)) _ (by rfl) (HY.out.chg hc4 (fun _ _ x => x)) (msg_ones _) (by have := HJN.out; unfold maxLen; omega) (by have := HJN.out; omega) ?_; intro a5 n5 c5 w6 hrow5 hch5 hold5; have hc5 := hc4.fresh hch5 hn4; have hn5 := own_ge hold5 hn4 hc4.size; have d95 := hc5.cell d9; obtain ⟨_, _, _, _, _, _, fz5⟩ := wayRow (HH4.out.still hc5))))
          all_goals (
            have hr6 := hrow5
            rw [show j + (N - (j + 1)) = (d1.way.take j ++ d1.way.drop (j + 1)).length by rw [List.length_append, List.length_take, List.length_drop, HNN.out, Nat.min_eq_left (by have := HJN.out; omega)], ← List.flatMap_append] at hr6
            obtain ⟨F6, k1, k2⟩ := wayNew HH4.out hc5 hr6 hn5
            have hP6 : ∀ d' w', WdPost (w6.setCell ⟨b, 9, none⟩ (.slice a5 n5 c5)) b d' F6 w' → WdPost w b d' F w' := fun d' w' hp => HP4.out _ _ (by obtain ⟨F7, z1, z2⟩ := hp; exact ⟨F7, z1, k2.trans z2⟩)
            have hbq := setCell_other (b := b) (i := 9) (.slice a5 n5 c5) (hc5.keep HBM.out (fun x => x)) (by have := HMBL.out; omega)
            have hob := setCell_other (b := b) (i := 9) (.slice a5 n5 c5) (hc5.keep HB4.out (fun x => x)) HOB.out
            have HF6 := Lib.hid k1
            have HP6 := Lib.hid hP6
            have HBQ := Lib.hid hbq
            have HOQ := Lib.hid hob
            clear hr6 k1 k2 hP6 hbq hob hrow4 hrow5 hch4 hch5 hold4 hold5 hc4 hc5 hn4 hn5 d94 d95 fz5 d9A d9 ht1 ht2 HA HX2 HY HCA HE HR4 HBM HB4 HH4 HP4 HD9
            generalize w6.setCell ⟨b, 9, none⟩ (.slice a5 n5 c5) = w7 at *
            clear wj hN2 hle9
            have hcu : WdI n k 0 (cutW d1 j) := HI.out.cut j
            generalize hdl : cutW d1 j = dl at *
            have hdl2 : ({ d1 with way := d1.way.take j ++ d1.way.drop (j + 1) } : Wd) = dl := hdl
            rw [hdl2] at HF6
            have HCU := Lib.hid hcu
            clear hdl hdl2 hcu
            have m0 : w7.cell? ⟨ob, 0, none⟩ = some (.int .u8 o.kind) := cell_of_block (i := 0) HOQ.out rfl
            have m2 : w7.cell? ⟨mb, 2, none⟩ = some (.int .i64 m.dst) := cell_of_block (i := 2) HBQ.out rfl
            by_cases hrc : r = 3 ∧ m.dst < 3
            · obtain ⟨h3, hd2⟩ := hrc
              have e3 : (r == 3) = true := by simpa using h3
              have hd1 := HDST.out
              have hrv : recvW dl m = dl.put m.dst.toNat (receiveM (dl.host m.dst.toNat) m) := by unfold recvW; rw [if_pos ⟨hd1, hd2⟩]
              have HDO : Hid (doM d1 o (i + 1) = (0, collectM (dl.put m.dst.toNat (receiveM (dl.host m.dst.toNat) m)))) := Lib.hid (HDOO.out _ (by rw [if_neg (by have := HR.out; omega), if_pos (by have := HR.out; omega), hrv]))
              have hBr := (HCU.out.recv HMIN.out)
              rw [hrv] at hBr
              clear h3 hrv
              go_upto_if 96 with fail
              obtain ⟨G7, HS7, -, hback⟩ := wdHost HF6.out.drew m.dst.toNat (by omega)
              have hmin := HMIN.out
              have hrc := receive_any w7.drew b (m.dst.toNat * 3) _ G7 m HS7 (by have := hmin.page; omega) (by have := hmin.data; omega) ((HCU.out.bd.host _).ok (by have := HN2.out; omega) (by omega))
              unfold Msg.cells at hrc
              have m1 : w7.cell? ⟨mb, 1, none⟩ = some (.int .i64 m.frm) := cell_of_block (i := 1) HBQ.out rfl
              have m0' : w7.cell? ⟨mb, 0, none⟩ = some (.int .i64 m.kind) := cell_of_block (i := 0) HBQ.out rfl
              have m3 : w7.cell? ⟨mb, 3, none⟩ = some (.string m.page) := cell_of_block (i := 3) HBQ.out rfl
              have m4 : w7.cell? ⟨mb, 4, none⟩ = some (.int .i64 m.epoch) := cell_of_block (i := 4) HBQ.out rfl
              have m5 : w7.cell? ⟨mb, 5, none⟩ = some (.int .i64 m.index) := cell_of_block (i := 5) HBQ.out rfl
              have m6 : w7.cell? ⟨mb, 6, none⟩ = some (.int .i64 m.count) := cell_of_block (i := 6) HBQ.out rfl
              have m7 : w7.cell? ⟨mb, 7, none⟩ = some (.string m.data) := cell_of_block (i := 7) HBQ.out rfl
              generalize hdr : dl.put m.dst.toNat (receiveM (dl.host m.dst.toNat) m) = dr at *
              have HRC := Lib.hid hrc
              have HBK2 := Lib.hid hback
              have HBR := Lib.hid hBr
              have HDR := Lib.hid hdr
              clear hmin hBr hback hrc hdr HS7 m0
              go_wp2_with fail
              go_still_tail 7, (by kernel_rfl)
              change wpList _ _ _ _ _ w7.drew
              go_wp2_with fail
              refine HRC.out.mono ?_
              rintro e w8 ⟨rfl, hp7⟩
              have hp8 := (HBK2.out _ _ hp7).1
              rw [HDR.out] at hp8
              obtain ⟨F8, H8, S8⟩ := hp8
              have hcl := collect_any w8 b _ F8 H8 (HBR.out.bd.collectOk (by have := HK.out; omega))
              have hP8 : ∀ d' w', WdPost w8 b d' F8 w' → WdPost w b d' F w' := fun d' w' hp => HP6.out _ _ (by obtain ⟨F9, z1, z2⟩ := hp; exact ⟨F9, z1, S8.drew.trans z2⟩)
              have HCL := Lib.hid hcl
              have HP8 := Lib.hid hP8
              clear hcl hP8 hp7 H8 S8 HBK2 HRC HF6 HP6 m0' m1 m2 m3 m4 m5 m6 m7
              go_wp2_with fail
              refine HCL.out.mono ?_
              rintro e w9 ⟨rfl, hp⟩
              have HFI := Lib.hid (HP8.out _ _ hp)
              clear hp HCL HP8
              go_wp2_with fail
              go_ret
              rw [HDO.out]
              exact ⟨rfl, HFI.out⟩
            · have HDO : Hid (doM d1 o (i + 1) = (0, collectM dl)) := Lib.hid (HDOO.out _ (by
                rw [if_neg (by have := HR.out; have := H34.out; omega)]
                by_cases h3 : o.kind % 7 = 3
                · have hd2 : ¬ (0 ≤ m.dst ∧ m.dst < 3) := fun x => hrc ⟨by have := HR.out; omega, x.2⟩
                  rw [if_pos h3]
                  unfold recvW
                  rw [if_neg hd2]
                · rw [if_neg h3]))
              have hcl := collect_any w7 b _ F6 HF6.out (HCU.out.bd.collectOk (by have := HK.out; omega))
              have HCL := Lib.hid hcl
              clear hcl
              have fin : ∀ e w9, e = Ending.returned (Value.tuple #[]) ∧ WdPost w7 b (collectM dl) F6 w9 → Hid (e = Ending.returned (Value.tuple #[])) ∧ Hid (WdPost w b (collectM dl) F w9) := fun e w9 x => ⟨Lib.hid x.1, Lib.hid (HP6.out _ _ x.2)⟩
              have FIN := Lib.hid fin
              clear fin
              by_cases h3 : r = 3
              · have e3 : (r == 3) = true := by simpa using h3
                have hd3 : ¬ m.dst < 3 := fun x => hrc ⟨h3, x⟩
                have hd4 : decide (m.dst < 3) = false := decide_eq_false hd3
                clear h3 hrc hd3
                go_wp2_with fail
                refine HCL.out.mono ?_
                rintro e w9 hx
                obtain ⟨q1, HFI⟩ := FIN.out e w9 hx
                obtain ⟨rfl, -⟩ := hx
                go_wp2_with fail
                go_ret
                rw [HDO.out]
                exact ⟨rfl, HFI.out⟩
              · have e3 : (r == 3) = false := by simpa using h3
                clear h3 hrc
                go_wp2_with fail
                refine HCL.out.mono ?_
                rintro e w9 hx
                obtain ⟨q1, HFI⟩ := FIN.out e w9 hx
                obtain ⟨rfl, -⟩ := hx
                go_wp2_with fail
                go_ret
                rw [HDO.out]
                exact ⟨rfl, HFI.out⟩)
end Go.Proofs.Ytkoopagjjmdodaa
