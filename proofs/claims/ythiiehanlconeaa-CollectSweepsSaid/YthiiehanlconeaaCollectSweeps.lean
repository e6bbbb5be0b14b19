/-
  CollectSweeps: the walk and the statement.
-/
import Derived.Test.YthiiehanlconeaaSwz
import Derived.Test.YthiiehanlconeaaLzz
import Derived.Test.YthiiehanlconeaaEdm
import Derived.Test.YthiiehanlconeaaGra
namespace Go.Proofs.Ythiiehanlconeaa
open Go.RowKit
set_option linter.unusedVariables false
set_option linter.unusedSimpArgs false

theorem sysR_in : ∀ r ∈ [(newM 9 2).global, (newM 9 2).texts] ++ (newM 9 2).protos, InI r := by
  have h : ∀ r ∈ [(newM 9 2).global, (newM 9 2).texts] ++ (newM 9 2).protos, -9223372036854775808 ≤ r ∧ r ≤ 9223372036854775807 := by decide
  exact h
theorem protoRow2 {w : World} {b o : Nat} {hp : Hp} {F : List Nat} (H : Here hpR w b o hp F) : ∃ a cap, w.cell? ⟨b, o + 7, none⟩ = some (.slice a hp.protos.length cap) ∧ RowAt w 3 1 (.slice a hp.protos.length cap) hp.protos.length (intC hp.protos) := by
  obtain ⟨cs, ⟨v1, v2, v3, F1, F2, F3, rfl, h1, h2, h3, -⟩, hc⟩ := H.cell
  obtain ⟨v', e, hr, -⟩ := row_flat.1 h3
  obtain rfl : v3 = v' := by simpa using e
  rw [flatMap_one] at hr
  have hr' : RowAt w 3 1 v3 hp.protos.length (intC hp.protos) := hr
  obtain ⟨a, cap, rfl, -⟩ := hr'.slice
  exact ⟨a, cap, hc 7 _ rfl, hr'⟩
theorem natHas (w : World) (v : Value) (X : List Nat) (z : Nat) (hr : RowAt w 3 1 v X.length (intC (natI X))) (hl : X.length ≤ 1000) :
    Calls Try.prog 24 #[v, .int .i64 (z : Int)] w fun e w' => e = .returned (.bool (decide (z ∈ X))) ∧ w = w' := by
  have h := rhas_any w v (natI X) z (by rw [natI_len]; exact hr) ⟨by rw [natI_len]; omega⟩
  have e : decide ((z : Int) ∈ natI X) = decide (z ∈ X) := decide_eq_decide.2 (mem_natI X z)
  rwa [e] at h
set_option maxHeartbeats 12800000 in
set_option maxRecDepth 100000 in
theorem collectSweeps_none (g : GA) (w : World) (hg : GAOk w g) (h0 : countM g.N g.ks.length g.zs.length g.ps.length = 0) :
    Calls Try.prog 5 #[g.val] w fun e w' => e = .returned (.bool true) ∧ Below w.heap.size w w' := by
  obtain ⟨N, ks, zs, ps, a1, a2, a3, c1, c2, c3⟩ := g
  have HN := hg.N
  have HCT := Lib.hid (fun W => count_any W N a1 a2 a3 ks.length zs.length ps.length c1 c2 c3 HN)
  dsimp only at h0
  rw [h0] at HCT
  have HAW := Lib.hid awake_any
  clear h0 hg HN
  show Calls Try.prog 5 #[.agg #[.int .u8 (N : Int), .slice a1 ks.length c1, .slice a2 zs.length c2, .slice a3 ps.length c3]] w _
  have hcc := Chg.alloc (fun _ => False) w (.cells #[.int .u8 (N : Int), .slice a1 ks.length c1, .slice a2 zs.length c2, .slice a3 ps.length c3] 26)
  go_enter Try.func5, Try.ntmps5
  go_wp2_with (first
    | (go_at_call 6; refine (HCT.out _).mono ?_; rintro e w1 ⟨rfl, hc1⟩; have hcc := hcc.trans' hc1; clear hc1)
    | (go_at_call 7; refine (HAW.out _).mono ?_; rintro e w2 ⟨rfl, hc2⟩; have hcc := hcc.trans' hc2; clear hc2))
  go_ret
  exact ⟨rfl, hcc.below (Nat.le_refl _) (fun _ h => h.elim)⟩
set_option maxHeartbeats 12800000 in
set_option maxRecDepth 100000 in
theorem collectSweeps_some (g : GA) (w : World) (hg : GAOk w g) (h0 : ¬ (60 < g.ks.length ∨ 10 < g.zs.length ∨ 10 < g.ps.length)) :
    Calls Try.prog 5 #[g.val] w fun e w' => e = .returned (.bool true) ∧ Below w.heap.size w w' := by
  have hn : ∃ n : Nat, countM g.N g.ks.length g.zs.length g.ps.length = n ∧ 0 < n ∧ n ≤ 16 := ⟨_, rfl, by unfold countM; rw [if_neg h0]; omega, by unfold countM; rw [if_neg h0]; omega⟩
  obtain ⟨n, hn0, hn1, hn2⟩ := hn
  obtain ⟨N, ks, zs, ps, a1, a2, a3, c1, c2, c3⟩ := g
  have HN := hg.N
  have HCT := Lib.hid (fun W => count_any W N a1 a2 a3 ks.length zs.length ps.length c1 c2 c3 HN)
  dsimp only at hn0 h0
  rw [hn0] at HCT
  have HAW := Lib.hid awake_any
  have HG := Lib.hid hg
  have HN1 := Lib.hid hn1
  have HN2 := Lib.hid hn2
  have HKL : Hid (ks.length ≤ 60) := Lib.hid (by omega)
  have HZL : Hid (zs.length ≤ 10) := Lib.hid (by omega)
  have HPL : Hid (ps.length ≤ 10) := Lib.hid (by omega)
  have nz : ((n : Int) == 0) = false := beq_false_of_ne (by omega)
  clear h0 hg HN hn0 hn1 hn2
  show Calls Try.prog 5 #[.agg #[.int .u8 (N : Int), .slice a1 ks.length c1, .slice a2 zs.length c2, .slice a3 ps.length c3]] w _
  have hcc := Chg.alloc (fun _ => False) w (.cells #[.int .u8 (N : Int), .slice a1 ks.length c1, .slice a2 zs.length c2, .slice a3 ps.length c3] 26)
  have hb := alloc_block w (.cells #[.int .u8 (N : Int), .slice a1 ks.length c1, .slice a2 zs.length c2, .slice a3 ps.length c3] 26)
  have HGR := Lib.hid (fun W (hc : Chg (fun _ => False) w W) => graph_any W n 9 2 (.slice a1 ks.length c1) ks HN1.out (by have := HN2.out; omega) (HG.out.ks.keep hc) HG.out.k1 HKL.out)
  go_enter Try.func5, Try.ntmps5
  go_upto_region 4 with (first
    | (go_at_call 6; refine (HCT.out _).mono ?_; rintro e w1 ⟨rfl, hc1⟩; have hcc := hcc.trans' hc1; have hb := hc1.keep hb (fun x => x); clear hc1)
    | (go_at_call 7; refine (HAW.out _).mono ?_; rintro e w2 ⟨rfl, hc2⟩; have hcc := hcc.trans' hc2; have hb := hc2.keep hb (fun x => x); clear hc2))
  have d1 := cell_of_block (i := 1) hb rfl
  simp only [List.getElem_toArray, List.getElem_cons_zero, List.getElem_cons_succ] at d1
  go_upto_region 5 with (go_at_call 8; refine (HGR.out _ hcc).mono ?_; rintro e w3 ⟨bh, hp, vl, vx, xs, Fh, Fx, rfl, hgs, hgi, hol⟩)
  -- the roots
  have hc3 := hcc.trans' hgs.heap.chg
  have hb3 := hgs.heap.chg.keep hb (fun x => x)
  have HL : Hid ((hsI 9 2 n).length = n) := Lib.hid (hsI_len 9 2 n)
  obtain ⟨al, kl, rfl, -, -⟩ := hol.val
  rw [HL.out] at hol hgs ⊢
  have HOL := Lib.hid hol
  have HGS := Lib.hid hgs
  have HGI := Lib.hid hgi
  have HB3 := Lib.hid hb3
  have HC3 := Lib.hid hc3
  have HB2 := Lib.hid hb
  have HC2 := Lib.hid hcc
  obtain ⟨-, -, -, -, -, c5, c6, -⟩ := hpCells hgs.heap.here
  obtain ⟨ap, kp, c7, hpr⟩ := protoRow2 hgs.heap.here
  rw [Nat.zero_add] at c5 c6 c7
  have HPR := Lib.hid hpr
  have HPL : Hid (hp.protos.length = 12) := Lib.hid (by rw [hgi.sys.2.2.1]; rfl)
  have HS0 : Hid (w3.cell? ⟨bh, 5, none⟩ = some (.int .i64 hp.global) ∧ w3.cell? ⟨bh, 6, none⟩ = some (.int .i64 hp.texts) ∧ w3.cell? ⟨bh, 7, none⟩ = some (.slice ap hp.protos.length kp)) := Lib.hid ⟨c5, c6, c7⟩
  clear hb hcc hc3 hb3 hol hgs hgi HGR HCT HAW c5 c6 c7 hpr d1
  refine wp_region_held_split 13 (fun w' => w'.cell? ⟨bh, 5, none⟩ = some (.int .i64 hp.global) ∧ w'.cell? ⟨bh, 6, none⟩ = some (.int .i64 hp.texts) ∧ w'.cell? ⟨bh, 7, none⟩ = some (.slice ap hp.protos.length kp)) (by kernel_rfl) (by kernel_rfl) ?_ (fun hHeld => ?_)
  · (first | exact HS0.out | exact HKS.out _ (Chg.refl _ _) | exact HKS.out _ (Chg.alloc _ _ _))
  simp only [List.take_succ_cons, List.take_zero]
  have HKS : Hid (∀ W, Chg (fun _ => False) w3.drew W → W.cell? ⟨bh, 5, none⟩ = some (.int .i64 hp.global) ∧ W.cell? ⟨bh, 6, none⟩ = some (.int .i64 hp.texts) ∧ W.cell? ⟨bh, 7, none⟩ = some (.slice ap hp.protos.length kp)) := Lib.hid (fun W hc => ⟨hc.cell HS0.out.1, hc.cell HS0.out.2.1, hc.cell HS0.out.2.2⟩)
  have HWD : Hid (Chg (fun _ => False) w3 w3.drew) := Lib.hid (Chg.refl _ w3).drewR
  generalize w3.drew = wD at *
  refine wpAnyH_take (i := 0) (v := ?_) rfl (by kernel_rfl) (by kernel_rfl) (by kernel_rfl) (fun _ _ _ h => h) (Or.inl ⟨by rfl, ?_⟩) (by assumption) ?_
  rotate_left
  · (intro wq hSw; (try dsimp only at hSw); go_simp; (try with_reducible rfl))
  simp only [Act.put, List.getElem_toArray, List.getElem_cons_zero, List.getElem_cons_succ, List.setIfInBounds_toArray, List.set_cons_zero, List.set_cons_succ]
  refine wpAnyH_take (i := 1) (v := ?_) rfl (by kernel_rfl) (by kernel_rfl) (by kernel_rfl) (fun _ _ _ h => h) (Or.inl ⟨by rfl, ?_⟩) (by assumption) ?_
  rotate_left
  · (intro wq hSw; (try dsimp only at hSw); go_simp; (try with_reducible rfl))
  simp only [Act.put, List.getElem_toArray, List.getElem_cons_zero, List.getElem_cons_succ, List.setIfInBounds_toArray, List.set_cons_zero, List.set_cons_succ]
  refine wpAnyH_take (i := 2) (v := ?_) rfl (by kernel_rfl) (by kernel_rfl) (by kernel_rfl) (fun _ _ _ h => h) (Or.inl ⟨by rfl, ?_⟩) (by assumption) ?_
  rotate_left
  · (intro wq hSw; (try dsimp only at hSw); go_simp; (try with_reducible rfl))
  simp only [Act.put, List.getElem_toArray, List.getElem_cons_zero, List.getElem_cons_succ, List.setIfInBounds_toArray, List.set_cons_zero, List.set_cons_succ]
  refine wpAnyH_take (i := 3) (v := ?_) rfl (by kernel_rfl) (by kernel_rfl) (by kernel_rfl) (fun _ _ _ h => h) (Or.inl ⟨by rfl, ?_⟩) (by assumption) ?_
  rotate_left
  · (intro wq hSw; (try dsimp only at hSw); go_simp; (try with_reducible rfl))
  simp only [Act.put, List.getElem_toArray, List.getElem_cons_zero, List.getElem_cons_succ, List.setIfInBounds_toArray, List.set_cons_zero, List.set_cons_succ]
  refine wpAnyH_take (i := 4) (v := ?_) rfl (by kernel_rfl) (by kernel_rfl) (by kernel_rfl) (fun _ _ _ h => h) (Or.inl ⟨by rfl, ?_⟩) (by assumption) ?_
  rotate_left
  · (intro wq hSw; (try dsimp only at hSw); go_simp; (try with_reducible rfl))
  simp only [Act.put, List.getElem_toArray, List.getElem_cons_zero, List.getElem_cons_succ, List.setIfInBounds_toArray, List.set_cons_zero, List.set_cons_succ]
  refine wpAnyH_take (i := 5) (v := ?_) rfl (by kernel_rfl) (by kernel_rfl) (by kernel_rfl) (fun _ _ _ h => h) (Or.inl ⟨by rfl, ?_⟩) (by assumption) ?_
  rotate_left
  · (intro wq hSw; (try dsimp only at hSw); go_simp; (try with_reducible rfl))
  simp only [Act.put, List.getElem_toArray, List.getElem_cons_zero, List.getElem_cons_succ, List.setIfInBounds_toArray, List.set_cons_zero, List.set_cons_succ]
  refine wpAnyH_take (i := 6) (v := ?_) rfl (by kernel_rfl) (by kernel_rfl) (by kernel_rfl) (fun _ _ _ h => h) (Or.inl ⟨by rfl, ?_⟩) (by assumption) ?_
  rotate_left
  · (intro wq hSw; (try dsimp only at hSw); go_simp; (try with_reducible rfl))
  simp only [Act.put, List.getElem_toArray, List.getElem_cons_zero, List.getElem_cons_succ, List.setIfInBounds_toArray, List.set_cons_zero, List.set_cons_succ]
  refine wpAnyH_take (i := 7) (v := ?_) rfl (by kernel_rfl) (by kernel_rfl) (by kernel_rfl) (fun _ _ _ h => h) (Or.inl ⟨by rfl, ?_⟩) (by assumption) ?_
  rotate_left
  · (intro wq hSw; (try dsimp only at hSw); go_simp; (try with_reducible rfl))
  simp only [Act.put, List.getElem_toArray, List.getElem_cons_zero, List.getElem_cons_succ, List.setIfInBounds_toArray, List.set_cons_zero, List.set_cons_succ]
  refine wpAnyH_take (i := 9) (v := ?_) rfl (by kernel_rfl) (by kernel_rfl) (by kernel_rfl) (fun _ _ _ h => h) (Or.inl ⟨by rfl, ?_⟩) (by assumption) ?_
  rotate_left
  · (intro wq hSw; (try dsimp only at hSw); go_simp; (try with_reducible rfl))
  simp only [Act.put, List.getElem_toArray, List.getElem_cons_zero, List.getElem_cons_succ, List.setIfInBounds_toArray, List.set_cons_zero, List.set_cons_succ]
  refine wpAnyH_take (i := 10) (v := ?_) rfl (by kernel_rfl) (by kernel_rfl) (by kernel_rfl) (fun _ _ _ h => h) (Or.inl ⟨by rfl, ?_⟩) (by assumption) ?_
  rotate_left
  · (intro wq hSw; (try dsimp only at hSw); go_simp; (try with_reducible rfl))
  simp only [Act.put, List.getElem_toArray, List.getElem_cons_zero, List.getElem_cons_succ, List.setIfInBounds_toArray, List.set_cons_zero, List.set_cons_succ]
  refine wpAnyH_take (i := 11) (v := ?_) rfl (by kernel_rfl) (by kernel_rfl) (by kernel_rfl) (fun _ _ _ h => h) (Or.inl ⟨by rfl, ?_⟩) (by assumption) ?_
  rotate_left
  · (intro wq hSw; (try dsimp only at hSw); go_simp; (try with_reducible rfl))
  simp only [Act.put, List.getElem_toArray, List.getElem_cons_zero, List.getElem_cons_succ, List.setIfInBounds_toArray, List.set_cons_zero, List.set_cons_succ]
  refine wpAnyH_take (i := 12) (v := ?_) rfl (by kernel_rfl) (by kernel_rfl) (by kernel_rfl) (fun _ _ _ h => h) (Or.inl ⟨by rfl, ?_⟩) (by assumption) ?_
  rotate_left
  · (intro wq hSw; (try dsimp only at hSw); go_simp; (try with_reducible rfl))
  simp only [Act.put, List.getElem_toArray, List.getElem_cons_zero, List.getElem_cons_succ, List.setIfInBounds_toArray, List.set_cons_zero, List.set_cons_succ]
  refine wpAnyH_ready (rs := [8]) (by kernel_rfl) (by simp) ?_
  refine AllReadyH.cons (by simp only [List.getElem?_toArray, List.getElem?_cons_succ, List.getElem?_cons_zero]; rfl) (fun K hK => ?_) AllReadyH.nil
  go_simp
  refine hK.out _ _ ?_ (fun hHeld => ?_)
  · (first | exact HS0.out | exact HKS.out _ (Chg.refl _ _) | exact HKS.out _ (Chg.alloc _ _ _))
  clear hK K
  (try simp only [Act.put, List.getElem_toArray, List.getElem_cons_zero, List.getElem_cons_succ, List.setIfInBounds_toArray, List.set_cons_zero, List.set_cons_succ])
  refine wpAnyH_done (by kernel_rfl) ?_ _
  change wpList _ _ _ _ _ _
  simp only [List.drop_succ_cons, List.drop_zero]
  have HO0 : Hid (OutI w3 (wD.alloc (.cells #[.int .i64 hp.global, .int .i64 hp.texts] 3)) (.slice (some ⟨wD.heap.size, 0, none⟩) 2 2) [hp.global, hp.texts]) := Lib.hid ⟨RowAt.lit [.int .i64 hp.global, .int .i64 hp.texts] rfl (by simp [maxLen]), fun k hk => by (have e : k = wD.heap.size := by simpa [Value.ownBlock] using hk.symm); have := HWD.out.size; omega, HWD.out.allocR _⟩
  have HP1 := Lib.hid (HPR.out.chg (HWD.out.allocR (.cells #[.int .i64 hp.global, .int .i64 hp.texts] 3)) (fun _ _ x => x))
  go_upto_region 6 with (at_builtin; refine wpList_out rfl (.tmp 45) (.tmp 49) rfl _ [hp.global, hp.texts] rfl HO0.out _ hp.protos rfl HP1.out (⟨by have := HPL.out; simp; omega⟩ : Few _) ?_; intro ar1 nr1 cr1 w4 HO1 hch1 hol1)
  clear HO0 HP1 HS0 HKS HPR hch1 hHeld HWD hol1
  have HO1' := Lib.hid HO1
  have HC4 := Lib.hid (HC3.out.trans' HO1.chg)
  have d2 := cell_of_block (i := 2) (HO1.chg.keep HB3.out (fun x => x)) rfl
  simp only [List.getElem_toArray, List.getElem_cons_zero, List.getElem_cons_succ] at d2
  have HHD := Lib.hid (handles_any w4 (.slice al n kl) (.slice a2 zs.length c2) (hsI 9 2 n) zs (by have h := HOL.out.row.chg HO1.chg (fun _ _ x => x); rw [HL.out] at h ⊢; exact h) (HG.out.zs.keep HC4.out) HG.out.z1 (by rw [HL.out]; exact HN1.out) (by rw [HL.out]; have := HN2.out; omega) (by have := HZL.out; omega))
  clear HO1
  go_upto_region 7 with (first
    | (go_at_call 11; refine HHD.out.mono ?_; rintro e w5 ⟨v5, rfl, HO5⟩; have HO3 := HO1'.out.still HO5.chg)
    | (at_builtin; refine wpList_out rfl (.tmp 51) (.tmp 55) rfl _ ([hp.global, hp.texts] ++ hp.protos) rfl HO3 _ (handlesM (hsI 9 2 n) zs) rfl HO5.row (⟨by have := HPL.out; have := HZL.out; unfold handlesM; simp only [List.length_append, List.length_map, List.length_cons, List.length_nil]; omega⟩ : Few _) ?_; intro ar2 nr2 cr2 w6 HO6 hch6 hol6))
  have HO6' := Lib.hid (show OutI w3 w6 (.slice ar2 nr2 cr2) (rootsS hp (hsI 9 2 n) zs) from HO6)
  clear HO3 HO5 HO6 hch6 hol6 HO1' HHD d2 HC4
  -- what is alive
  have hSL : (rootsS hp (hsI 9 2 n) zs).length ≤ 1000000 := by unfold rootsS handlesM; have := HPL.out; have := HZL.out; simp only [List.length_append, List.length_map, List.length_cons, List.length_nil]; omega
  have hRI : ∀ r ∈ rootsS hp (hsI 9 2 n) zs, InI r := fun r hr => by
    unfold rootsS at hr
    rcases List.mem_append.1 hr with h | h
    · obtain ⟨e1, e2, e3, -⟩ := HGI.out.sys
      rw [e1, e2, e3] at h
      exact sysR_in r h
    · unfold handlesM at h
      obtain ⟨z, -, rfl⟩ := List.mem_map.1 h
      exact HGI.out.inI _
  have HSL := Lib.hid hSL
  have HRI := Lib.hid hRI
  have hlv := live_any w6 bh hp Fh (.slice ar2 nr2 cr2) .nilFunc (rootsS hp (hsI 9 2 n) zs) noE (HGS.out.heap.here.still HO6'.out.chg) (HGI.out.hpOk (by omega)) HO6'.out.row hSL hRI (.inl ⟨rfl, rfl⟩)
  rw [HGI.out.liveAll HL.out zs] at hlv
  have HLV := Lib.hid hlv
  clear hSL hRI hlv
  go_upto_region 8 with (go_at_call 10; refine HLV.out.mono ?_; rintro e w7 ⟨v7, rfl, HO7⟩)
  -- the sweep
  have HQ7 := Lib.hid ((HGS.out.heap.here.still HO6'.out.chg).still HO7.chg)
  have hle := len_any w7 bh 0 hp Fh HQ7.out
  obtain ⟨A, hA⟩ : ∃ A : Int, A = ((12 + n : Nat) : Int) := ⟨_, rfl⟩
  rw [HGI.out.sys.2.2.2.2, ← hA] at hle
  have HA := Lib.hid hA
  clear hA
  have HLE := Lib.hid hle
  clear hle HLV
  go_upto_region 9 with (go_at_call 21; refine HLE.out.mono ?_; rintro e wle ⟨rfl, hwle⟩; subst wle)
  have hgs7 := GS.apart (S := fun _ => False) (B' := ownL (.slice ar2 nr2 cr2) ++ (ownL v7 ++ ownL (.slice al n kl))) HGS.out (HO6'.out.chg.trans' HO7.chg) (fun _ x => x.elim) (fun k hk => by
    have hz := HO7.chg.size
    have hz6 := HO6'.out.chg.size
    rcases List.mem_append.1 hk with h | h
    · exact .inr ⟨HO6'.out.lo k (mem_ownL.1 h), Nat.lt_of_lt_of_le (HO6'.out.row.lt k (mem_ownL.1 h)) hz⟩
    · rcases List.mem_append.1 h with h | h
      · exact .inr ⟨Nat.le_trans hz6 (HO7.lo k (mem_ownL.1 h)), HO7.row.lt k (mem_ownL.1 h)⟩
      · exact .inl h) (fun _ x => x.elim)
  have HGS7 := Lib.hid hgs7
  have HR7 := Lib.hid (HO6'.out.row.chg HO7.chg (fun _ _ x => x))
  have HV7 := Lib.hid HO7.row
  have hl7 := HOL.out.row.chg (HO6'.out.chg.trans' HO7.chg) (fun _ _ x => x)
  have HL7 := Lib.hid hl7
  have hsw := sweep_any w7 bh hp Fh (liveS n xs zs) v7 hgs7.heap.here (HGI.out.hpOk (by omega)) (HGI.out.sGood zs) (by have h := HO7.row; rwa [List.length_map] at h) (by rw [HGI.out.ok.slots]; have := HN2.out; omega) (by rw [HGI.out.sys.2.2.2.1]; exact Nat.zero_le _) (by rw [HGI.out.sys.2.2.2.2, HGI.out.ok.slots]) (by rw [HGI.out.ok.slots]; omega)
  obtain ⟨D, hD⟩ : ∃ D : Int, D = A - ((liveS n xs zs).length : Int) := ⟨_, rfl⟩
  rw [(HGI.out.swLive zs).2, ← HA.out, ← hD] at hsw
  have HD := Lib.hid hD
  have HSW := Lib.hid hsw
  have hq : (liveS n xs zs).length ≤ 12 + n := by have := (HGI.out.swLive zs).2; omega
  clear hsw hgs7 hl7 HO7 HLE HQ7 hD
  go_upto_region 10 with (go_at_call 22; refine HSW.out.mono ?_; rintro e w9 ⟨rfl, hps⟩)
  obtain ⟨F9, hg9, hch9, -⟩ := HGS7.out.heapStep hps
  have hkb : KeepB (ownL (.slice ar2 nr2 cr2) ++ (ownL v7 ++ ownL (.slice al n kl))) w7 w9 := fun k hk o ho => hch9.keep ho (fun e => by
    obtain ⟨q1, q2, -, -⟩ := HGS7.out.bs k hk
    exact e.elim q1 q2)
  have HR9 := Lib.hid (HR7.out.keep fun k o hv ho => hkb k (List.mem_append_left _ (mem_ownL.2 hv)) o ho)
  have HV9 := Lib.hid (HV7.out.keep fun k o hv ho => hkb k (List.mem_append_right _ (List.mem_append_left _ (mem_ownL.2 hv))) o ho)
  have HL9 := Lib.hid (HL7.out.keep fun k o hv ho => hkb k (List.mem_append_right _ (List.mem_append_right _ (mem_ownL.2 hv))) o ho)
  have HG9 := Lib.hid hg9
  have HC9 := Lib.hid (HC2.out.trans' hg9.heap.chg)
  have HB9 := Lib.hid (hg9.heap.chg.keep HB2.out (fun x => x))
  have HAG := HGI.out.again HL.out zs
  have hle := len_any w9 bh 0 _ F9 hg9.heap.here
  rw [(HGI.out.swLive zs).1] at hle
  have HLE := Lib.hid hle
  have HLA := Lib.hid (fun (W : World) (hc : Chg (fun _ => False) w9 W) => live_any W bh (sweepM hp (liveS n xs zs)) F9 (.slice ar2 nr2 cr2) .nilFunc (rootsS hp (hsI 9 2 n) zs) noE (HG9.out.heap.here.still hc) (HGI.out.swOk (by omega) zs) (HR9.out.chg hc (fun _ _ x => x)) HSL.out HRI.out (.inl ⟨rfl, rfl⟩))
  rw [HAG] at HLA
  rw [sweep_base.1, sweep_base.2] at HLA
  obtain ⟨a7, c7, rfl, -⟩ := HV9.out.slice
  rw [List.length_map] at HV9 ⊢
  have wq : IntKind.i64.wrap (A - ((liveS n xs zs).length : Int)) = D := by rw [HD.out]; exact IntWalk.i64_in _ (by have := HN2.out; have := HA.out; omega)
  have zq : (D != D) = false := bne_self_eq_false ..
  have zq2 : (((liveS n xs zs).length : Int) != ((liveS n xs zs).length : Int)) = false := bne_self_eq_false ..
  have HQL := Lib.hid hq
  clear hle HAG hg9 hch9 hkb hps HGS7 HSW HR7 HV7 HL7 HO6' HOL HGS HB3 HC3 HSL HRI hq HA HD
  go_upto_region 12 with (go_at_call 21; refine HLE.out.mono ?_; rintro e wle ⟨rfl, hwle⟩; subst wle)
  have hnm : numbersM n zs = natI (zs.map (· % n)) := by unfold numbersM natI; rw [List.map_map]; rfl
  have HNM0 := numbers_any w9 n (.slice a2 zs.length c2) zs (HG.out.zs.keep HC9.out) HG.out.z1 HN1.out (by have := HN2.out; omega) (by have := HZL.out; omega)
  rw [hnm] at HNM0
  have HNM := Lib.hid HNM0
  have d2 := cell_of_block (i := 2) HB9.out rfl
  simp only [List.getElem_toArray, List.getElem_cons_zero, List.getElem_cons_succ] at d2
  have HRL := Lib.hid (fun (W : World) (vr : Value) (hc : Chg (fun _ => False) w9 W) (hr : RowAt W 3 1 vr (zs.map (· % n)).length (intC (natI (zs.map (· % n))))) =>
    rlive_any W n vx vr (.slice none 0 0) xs [] Fx [] (zs.map (· % n)) (HG9.out.x.still hc) (Row.nil _ _ _) hr (HGI.out.xOk (by omega) (by simp) (by simp) (by simp))
      (fun r hr => by obtain ⟨z, -, rfl⟩ := List.mem_map.1 hr; exact Nat.mod_lt _ HN1.out) (by rw [List.length_map]; have := HZL.out; omega))
  rw [show liveR (gR xs []) (psR xs) n (n + 1) (addAll [] (zs.map (· % n))) 0 = liveX n xs zs from rfl] at HRL
  clear HNM0 hnm wq zq zq2 HLE
  go_upto_region 13 with (first
    | (go_at_call 13; refine HNM.out.mono ?_; rintro e w10 ⟨v10, rfl, HO10⟩)
    | (go_at_call 12; refine (HRL.out w10 v10 HO10.chg (by have h := HO10.row; rwa [natI_len] at h)).mono ?_; rintro e w11 ⟨v11, rfl, HO11⟩))
  -- object after object
  have HC11 := Lib.hid (HO10.chg.trans' HO11.chg)
  have HXS := Lib.hid (fun j (hj : j < n) => HGI.out.swGet zs hj)
  have HXG := Lib.hid (HGI.out.xGood zs).1
  obtain ⟨a11, c11, rfl, -, -⟩ := HO11.val
  have hr11 := HO11.row
  rw [natI_len] at hr11 ⊢
  have HRH := Lib.hid (fun (W : World) (hc : Chg (fun _ => False) w11 W) (z : Nat) => natHas W (.slice a11 (liveX n xs zs).length c11) (liveX n xs zs) z (hr11.chg hc (fun _ _ x => x)) (by have := good_len n _ HXG.out; have := HN2.out; omega))
  have HH11 := Lib.hid (HG9.out.heap.here.still HC11.out)
  have hl11 := HL9.out.chg HC11.out (fun _ _ x => x)
  rw [HL.out] at hl11
  obtain ⟨gl, ol, kl', hv, -, -⟩ := hl11.addr HN1.out
  cases hv
  have HL11 := Lib.hid hl11
  have hxn : xs.length = n := HGI.out.ok.xs
  obtain ⟨gx, ox, cx, hv, -, -, -, -⟩ := roOpen (HG9.out.x.still HC11.out) (i := 0) (by rw [hxn]; exact HN1.out)
  subst hv
  have HX11 := Lib.hid (HG9.out.x.still HC11.out)
  rw [hxn] at HX11 ⊢
  have HXN := Lib.hid hxn
  have HINI := Lib.hid (fun j (hj : j < n) => (HGI.out.pos j hj).2)
  have HJO := Lib.hid (fun j (hj : j < n) => HGI.out.jo j hj)
  have hn16 : (n : Int) ≤ 16 := by have := HN2.out; omega
  clear hxn hl11 hr11 HO11 HO10 HRL HNM d2
  generalize liveX n xs zs = X at *
  generalize hLV : liveS n xs zs = Lv at *
  clear hLV
  generalize hP9 : sweepM hp Lv = hp9 at *
  clear hP9
  go_wp2_with fail
  go_loopw [12, 13, 14, 15, 16] (fun u12 _ _ _ _ wr => ∃ (i : Nat), i ≤ n ∧ u12 = .int .i64 i ∧ Hid (Chg (fun _ => False) w11 wr)) (fun u12 _ _ _ _ _ => n - (intOf u12).toNat)
  case atStart => exact ⟨0, by omega, rfl, Lib.hid (Chg.refl _ _)⟩
  case round =>
    obtain ⟨i, hi, rfl, HCR⟩ := hrel
    by_cases hlt : i < n
    · have i0 : (0 : Int) ≤ (i : Int) := by omega
      have i1 : (i : Int) < (n : Int) := by omega
      have w64 : IntKind.i64.wrap ((i : Int) + 1) = ((i + 1 : Nat) : Int) := IntWalk.i64_in _ (by omega)
      have pl := HCR.out.cell (HL11.out.cellAt i (.int .i64 (hOf 9 2 i)) (by unfold intC hsI; rw [List.getElem?_map, List.getElem?_map, List.getElem?_range hlt]; rfl))
      have hge := hget_any wr bh hp9 F9 (hOf 9 2 i) (HH11.out.still HCR.out) (HINI.out i hlt)
      rw [(HXS.out i hlt).1] at hge
      have hdt := (HXS.out i hlt).2
      have hxi : i < xs.length := by rw [HXN.out]; exact hlt
      obtain ⟨gx', ox', cx', hv, v1, v2, v3, HRC⟩ := roOpen (HX11.out.still HCR.out) hxi
      rw [HXN.out] at hv
      cases hv
      have HJ := HJO.out i hlt
      rw [getD_get hxi] at hdt HJ
      have HKV := Lib.hid HJ.kv
      have HKY := Lib.hid HJ.key
      have HVY := Lib.hid HJ.val
      have HLK := Lib.hid HJ.lk
      clear hi HJ
      generalize xs[i] = x at *
      clear hxi
      obtain ⟨aa2, k2, rfl, -⟩ := HRC.r2.slice
      obtain ⟨aa3, k3, rfl, -⟩ := HRC.r3.slice
      have HRCH := Lib.hid HRC
      have HHI := HRH.out wr HCR.out i
      have HLT := Lib.hid hlt
      have HNX := Lib.hid (show i + 1 ≤ n from hlt)
      have HGE := Lib.hid hge
      generalize getO hp9 (hOf 9 2 i) = o at *
      have HDT := Lib.hid hdt
      generalize hOf 9 2 i = hz at *
      clear HRC hlt hge hdt HHI
      go_upto_region 17 with (go_at_call 23; refine HGE.out.mono ?_; rintro e wg ⟨b1, m1, k1, b2, m2, l2, b3, m3, k3', b4, m4, k4, rfl, hrow, hrb, hcg⟩)
      have e3 : m3 = o.data.length := by
        obtain ⟨_, _, e, -⟩ := hrow.slice
        cases e; rfl
      subst e3
      have hall := (HCR.out.trans' hcg).allocR (.cells #[.int .i64 o.kind, .int .i64 o.proto, .slice b1 m1 k1, .slice b2 m2 l2, .slice b3 o.data.length k3', .int .i64 o.code, .int .i64 o.env, .int .i64 o.cls, .int .i64 o.ref, .slice b4 m4 k4] 75)
      have hb := alloc_block wg (.cells #[.int .i64 o.kind, .int .i64 o.proto, .slice b1 m1 k1, .slice b2 m2 l2, .slice b3 o.data.length k3', .int .i64 o.code, .int .i64 o.env, .int .i64 o.cls, .int .i64 o.ref, .slice b4 m4 k4] 75)
      have hb4 := cell_of_block (i := 4) hb rfl
      simp only [List.getElem_toArray, List.getElem_cons_zero, List.getElem_cons_succ] at hb4
      have hrw := hrow.chg (hcg.allocR (.cells #[.int .i64 o.kind, .int .i64 o.proto, .slice b1 m1 k1, .slice b2 m2 l2, .slice b3 o.data.length k3', .int .i64 o.code, .int .i64 o.env, .int .i64 o.cls, .int .i64 o.ref, .slice b4 m4 k4] 75)) (fun _ _ x => x)
      have hro := HRCH.out.still (hcg.allocR (.cells #[.int .i64 o.kind, .int .i64 o.proto, .slice b1 m1 k1, .slice b2 m2 l2, .slice b3 o.data.length k3', .int .i64 o.code, .int .i64 o.env, .int .i64 o.cls, .int .i64 o.ref, .slice b4 m4 k4] 75))
      clear hb hrow hrb hcg
      generalize wg.alloc (.cells #[.int .i64 o.kind, .int .i64 o.proto, .slice b1 m1 k1, .slice b2 m2 l2, .slice b3 o.data.length k3', .int .i64 o.code, .int .i64 o.env, .int .i64 o.cls, .int .i64 o.ref, .slice b4 m4 k4] 75) = wA at *
      generalize wg.heap.size = bo at *
      have HALL := Lib.hid hall
      have HB4 := Lib.hid hb4
      have HRW := Lib.hid hrw
      have HRO := Lib.hid hro
      have hhi := HRH.out wA hall i
      obtain ⟨d, hd⟩ : ∃ d, d = decide (i ∈ X) := ⟨_, rfl⟩
      rw [← hd] at hhi ⊢
      have HHI := Lib.hid hhi
      have HDD := Lib.hid hd
      clear hall hb4 hrw hro hhi hd HGE HRCH pl
      cases d with
      | false =>
        go_wp2_with (go_at_call 24; refine HHI.out.mono ?_; rintro e wh ⟨rfl, hwh⟩; subst wh)
        go_roundw
        case rel => exact ⟨i + 1, HNX.out, rfl, HALL⟩
        case measure => have := HLT.out; simp [intOf, w64]; omega
      | true =>
        have cw := HRO.out.c0
        cases hw : x.weak with
        | false =>
          rw [hw] at cw
          clear hw
          go_wp2_with (go_at_call 24; refine HHI.out.mono ?_; rintro e wh ⟨rfl, hwh⟩; subst wh)
          go_roundw
          case rel => exact ⟨i + 1, HNX.out, rfl, HALL⟩
          case measure => have := HLT.out; simp [intOf, w64]; omega
        | true =>
          rw [hw] at cw
          have HDA := Lib.hid (HDT.out (of_decide_eq_true HDD.out.symm) hw)
          clear hw
          go_upto_region 20 with (go_at_call 24; refine HHI.out.mono ?_; rintro e wh ⟨rfl, hwh⟩; subst wh)
          clear cw
          go_wp2_with fail
          go_loopw [15, 16] (fun u15 u16 wj => ∃ (j k : Nat), j ≤ x.keys.length ∧ u16 = .int .i64 j ∧ u15 = .int .i64 k ∧ Hid (k = keptN X x j) ∧ Hid (Chg (fun _ => False) wA wj)) (fun _ u16 _ => x.keys.length - (intOf u16).toNat)
          case atStart => exact ⟨0, 0, by omega, rfl, rfl, Lib.hid rfl, Lib.hid (Chg.refl _ _)⟩
          case round =>
            rename World => wj
            obtain ⟨j, k, hj, rfl, rfl, HK, HCJ⟩ := hrel
            have kl420 : (x.keys.length : Int) ≤ 420 := by have := HLK.out; omega
            have cx2 := HCJ.out.cell HRO.out.c2
            by_cases hjl : j < x.keys.length
            · have j0 : (0 : Int) ≤ (j : Int) := by omega
              have j1 : (j : Int) < (x.keys.length : Int) := by omega
              have wj64 : IntKind.i64.wrap ((j : Int) + 1) = ((j + 1 : Nat) : Int) := IntWalk.i64_in _ (by omega)
              have hvl : j < x.vals.length := by have := HKV.out; omega
              have j2 : (j : Int) < (x.vals.length : Int) := by omega
              have cx3 := HCJ.out.cell HRO.out.c3
              have r2 := HRO.out.r2.chg HCJ.out (fun _ _ x => x)
              have r3 := HRO.out.r3.chg HCJ.out (fun _ _ x => x)
              obtain ⟨gk, okk, kk', hv, -, -⟩ := r2.addr (by omega)
              cases hv
              obtain ⟨gv, ov, kv', hv, -, -⟩ := r3.addr (by omega)
              cases hv
              have ck := r2.cellAt j (.int .i64 (x.keys[j] : Nat)) (by simp [intC, natI, hjl])
              have cv := r3.cellAt j (.int .i64 (x.vals[j] : Nat)) (by simp [intC, natI, hvl])
              have hkg := kept_get (X := X) HKV.out hjl hvl
              rw [← HK.out] at hkg
              have hyn := HKY.out _ (List.getElem_mem hjl)
              have hzn := HVY.out _ (List.getElem_mem hvl)
              have HKB : Hid (k ≤ 420) := Lib.hid (by have := HK.out; have := keptN_le X x j; have := HLK.out; omega)
              clear r2 r3
              generalize x.keys[j] = y at *
              generalize x.vals[j] = z at *
              have HJL := Lib.hid hjl
              have HNJ := Lib.hid (show j + 1 ≤ x.keys.length from hjl)
              have HKG := Lib.hid hkg
              have hhy := HRH.out wj (HALL.out.trans' HCJ.out) y
              obtain ⟨d2, hd2⟩ : ∃ d, d = decide (y ∈ X) := ⟨_, rfl⟩
              rw [← hd2] at hhy
              have HHY := Lib.hid hhy
              have HD2 := Lib.hid hd2
              have y0 : (0 : Int) ≤ (y : Int) := by omega
              have y1 : (y : Int) < (n : Int) := by omega
              have z0 : (0 : Int) ≤ (z : Int) := by omega
              have z1 : (z : Int) < (n : Int) := by omega
              have HYN := Lib.hid hyn
              have HZN := Lib.hid hzn
              clear hjl hvl hkg hhy hd2 hj hyn hzn
              cases d2 with
              | false =>
                have HKN : Hid (k = keptN X x (j + 1)) := Lib.hid (HKG.out.1 (of_decide_eq_false HD2.out.symm)).symm
                go_wp2_with (go_at_call 24; refine HHY.out.mono ?_; rintro e wh ⟨rfl, hwh⟩; subst wh)
                go_roundw
                case rel => exact ⟨j + 1, k, HNJ.out, rfl, rfl, HKN, HCJ⟩
                case measure => have := HJL.out; simp [intOf, wj64]; omega
              | true =>
                obtain ⟨hk1, hkl, hkq⟩ := HKG.out.2 (of_decide_eq_true HD2.out.symm)
                obtain ⟨p0, p1⟩ := pair_get (fun q : Nat × Nat => refV (hOf 9 2 q.1)) (fun q => refV (hOf 9 2 q.2)) _ _ _ hkq
                have pll := pair_len (fun q : Nat × Nat => refV (hOf 9 2 q.1)) (fun q => refV (hOf 9 2 q.2)) (keptW X x)
                rw [← HDA.out] at p0 p1 pll
                dsimp only at p0 p1
                obtain ⟨e0, he0⟩ : ∃ e0, e0 = 2 * k := ⟨_, rfl⟩
                obtain ⟨e1, he1⟩ : ∃ e1, e1 = e0 + 1 := ⟨_, rfl⟩
                rw [← he0] at p0
                rw [← he0, ← he1] at p1
                have hl0 : e0 < o.data.length := by omega
                have hl1 : e1 < o.data.length := by omega
                have hrj := HRW.out.chg HCJ.out (fun _ _ x => x)
                obtain ⟨gd, od, kd', hv, -, -⟩ := hrj.addr (by omega)
                cases hv
                have hcell : ∀ jj (hjj : jj < o.data.length) t u, o.data[jj].cells[t]? = some u → t < 4 → wj.cell? ⟨gd, od + jj * 4 + t, none⟩ = some u := fun jj hjj t u hu ht => by
                  rw [Nat.add_assoc]
                  exact hrj.cellAt (jj * 4 + t) u (by rw [flat_get _ 4 Val.len o.data jj t hjj ht]; exact hu)
                rw [List.getElem?_eq_getElem hl0] at p0
                rw [List.getElem?_eq_getElem hl1] at p1
                replace p0 := Option.some.inj p0
                replace p1 := Option.some.inj p1
                have a0 := hcell e0 hl0 0 _ rfl (by omega)
                have a1 := hcell e0 hl0 1 _ rfl (by omega)
                have a2' := hcell e0 hl0 2 _ rfl (by omega)
                have a3' := hcell e0 hl0 3 _ rfl (by omega)
                have b0 := hcell e1 hl1 0 _ rfl (by omega)
                have b1' := hcell e1 hl1 1 _ rfl (by omega)
                have b2' := hcell e1 hl1 2 _ rfl (by omega)
                have b3' := hcell e1 hl1 3 _ rfl (by omega)
                rw [Nat.add_zero, p0] at a0
                rw [Nat.add_zero, p1] at b0
                rw [p0] at a1 a2' a3'
                rw [p1] at b1' b2' b3'
                have hl := HALL.out.trans' HCJ.out
                have ly := hl.cell (HL11.out.cellAt y (.int .i64 (hOf 9 2 y)) (by unfold intC hsI; rw [List.getElem?_map, List.getElem?_map, List.getElem?_range HYN.out]; rfl))
                have lz := hl.cell (HL11.out.cellAt z (.int .i64 (hOf 9 2 z)) (by unfold intC hsI; rw [List.getElem?_map, List.getElem?_map, List.getElem?_range HZN.out]; rfl))
                have cb4 := HCJ.out.cell HB4.out
                generalize hOf 9 2 y = p at *
                generalize hOf 9 2 z = q at *
                have HS0 : Hid (wj.cell? ⟨bo, 4, none⟩ = some (.slice (some ⟨gd, od, none⟩) o.data.length k3') ∧ wj.cell? ⟨gd, od + e0 * 4, none⟩ = some (.int .i64 5) ∧ wj.cell? ⟨gd, od + e0 * 4 + 1, none⟩ = some (.int .i64 0) ∧ wj.cell? ⟨gd, od + e0 * 4 + 2, none⟩ = some (.string ⟨#[]⟩) ∧ wj.cell? ⟨gd, od + e0 * 4 + 3, none⟩ = some (.int .i64 p) ∧ wj.cell? ⟨gd, od + e1 * 4, none⟩ = some (.int .i64 5) ∧ wj.cell? ⟨gd, od + e1 * 4 + 1, none⟩ = some (.int .i64 0) ∧ wj.cell? ⟨gd, od + e1 * 4 + 2, none⟩ = some (.string ⟨#[]⟩) ∧ wj.cell? ⟨gd, od + e1 * 4 + 3, none⟩ = some (.int .i64 q) ∧ wj.cell? ⟨gx, ox + i * 4 + 2, none⟩ = some (.slice (some ⟨gk, okk, none⟩) x.keys.length k2) ∧ wj.cell? ⟨gx, ox + i * 4 + 3, none⟩ = some (.slice (some ⟨gv, ov, none⟩) x.vals.length k3) ∧ wj.cell? ⟨gk, okk + j, none⟩ = some (.int .i64 (y : Int)) ∧ wj.cell? ⟨gv, ov + j, none⟩ = some (.int .i64 (z : Int)) ∧ wj.cell? ⟨gl, ol + y, none⟩ = some (.int .i64 p) ∧ wj.cell? ⟨gl, ol + z, none⟩ = some (.int .i64 q)) := Lib.hid ⟨cb4, a0, a1, a2', a3', b0, b1', b2', b3', cx2, cx3, ck, cv, ly, lz⟩
                have f0 : (0 : Int) ≤ (e0 : Int) := by omega
                have f1 : (e0 : Int) < (o.data.length : Int) := by omega
                have f2 : (0 : Int) ≤ (e1 : Int) := by omega
                have f3 : (e1 : Int) < (o.data.length : Int) := by omega
                have w2k : IntKind.i64.wrap (2 * (k : Int)) = (e0 : Int) := by rw [show (2 * (k : Int)) = (e0 : Int) by omega]; exact IntWalk.i64_in _ (by have := HKB.out; omega)
                have wk1 : IntKind.i64.wrap ((e0 : Int) + 1) = (e1 : Int) := by rw [show ((e0 : Int) + 1) = (e1 : Int) by omega]; exact IntWalk.i64_in _ (by have := HKB.out; omega)
                have wk64 : IntKind.i64.wrap ((k : Int) + 1) = ((k + 1 : Nat) : Int) := IntWalk.i64_in _ (by have := HKB.out; omega)
                have HKN : Hid (k + 1 = keptN X x (j + 1)) := Lib.hid hk1.symm
                clear a0 a1 a2' a3' b0 b1' b2' b3' cx3 cv ly lz cb4 hl p0 p1 hcell hrj he0 he1 hl0 hl1 hk1 hkl hkq pll
                go_upto_region 25 with (go_at_call 24; refine HHY.out.mono ?_; rintro e wh ⟨rfl, hwh⟩; subst wh)
                clear cx2 ck
                have HRF := Lib.hid (fun (h : Int) (W : World) => vref_any h W)
                have dg : ¬ ((o.data.length : Int) ≤ (e1 : Int)) := by omega
                have zp : (p != p) = false := bne_self_eq_false ..
                have zq : (q != q) = false := bne_self_eq_false ..
                refine wp_region_held_split 49 (fun w' => w'.cell? ⟨bo, 4, none⟩ = some (.slice (some ⟨gd, od, none⟩) o.data.length k3') ∧ w'.cell? ⟨gd, od + e0 * 4, none⟩ = some (.int .i64 5) ∧ w'.cell? ⟨gd, od + e0 * 4 + 1, none⟩ = some (.int .i64 0) ∧ w'.cell? ⟨gd, od + e0 * 4 + 2, none⟩ = some (.string ⟨#[]⟩) ∧ w'.cell? ⟨gd, od + e0 * 4 + 3, none⟩ = some (.int .i64 p) ∧ w'.cell? ⟨gd, od + e1 * 4, none⟩ = some (.int .i64 5) ∧ w'.cell? ⟨gd, od + e1 * 4 + 1, none⟩ = some (.int .i64 0) ∧ w'.cell? ⟨gd, od + e1 * 4 + 2, none⟩ = some (.string ⟨#[]⟩) ∧ w'.cell? ⟨gd, od + e1 * 4 + 3, none⟩ = some (.int .i64 q) ∧ w'.cell? ⟨gx, ox + i * 4 + 2, none⟩ = some (.slice (some ⟨gk, okk, none⟩) x.keys.length k2) ∧ w'.cell? ⟨gx, ox + i * 4 + 3, none⟩ = some (.slice (some ⟨gv, ov, none⟩) x.vals.length k3) ∧ w'.cell? ⟨gk, okk + j, none⟩ = some (.int .i64 (y : Int)) ∧ w'.cell? ⟨gv, ov + j, none⟩ = some (.int .i64 (z : Int)) ∧ w'.cell? ⟨gl, ol + y, none⟩ = some (.int .i64 p) ∧ w'.cell? ⟨gl, ol + z, none⟩ = some (.int .i64 q)) (by kernel_rfl) (by kernel_rfl) ?_ (fun hHeld => ?_)
                · (first | exact HS0.out | exact HKS.out _ HCC.out)
                simp only [List.take_succ_cons, List.take_zero]
                have HKS : Hid (∀ W, Chg (fun _ => False) wj.drew W → W.cell? ⟨bo, 4, none⟩ = some (.slice (some ⟨gd, od, none⟩) o.data.length k3') ∧ W.cell? ⟨gd, od + e0 * 4, none⟩ = some (.int .i64 5) ∧ W.cell? ⟨gd, od + e0 * 4 + 1, none⟩ = some (.int .i64 0) ∧ W.cell? ⟨gd, od + e0 * 4 + 2, none⟩ = some (.string ⟨#[]⟩) ∧ W.cell? ⟨gd, od + e0 * 4 + 3, none⟩ = some (.int .i64 p) ∧ W.cell? ⟨gd, od + e1 * 4, none⟩ = some (.int .i64 5) ∧ W.cell? ⟨gd, od + e1 * 4 + 1, none⟩ = some (.int .i64 0) ∧ W.cell? ⟨gd, od + e1 * 4 + 2, none⟩ = some (.string ⟨#[]⟩) ∧ W.cell? ⟨gd, od + e1 * 4 + 3, none⟩ = some (.int .i64 q) ∧ W.cell? ⟨gx, ox + i * 4 + 2, none⟩ = some (.slice (some ⟨gk, okk, none⟩) x.keys.length k2) ∧ W.cell? ⟨gx, ox + i * 4 + 3, none⟩ = some (.slice (some ⟨gv, ov, none⟩) x.vals.length k3) ∧ W.cell? ⟨gk, okk + j, none⟩ = some (.int .i64 (y : Int)) ∧ W.cell? ⟨gv, ov + j, none⟩ = some (.int .i64 (z : Int)) ∧ W.cell? ⟨gl, ol + y, none⟩ = some (.int .i64 p) ∧ W.cell? ⟨gl, ol + z, none⟩ = some (.int .i64 q)) := Lib.hid (fun W hc => ⟨hc.cell HS0.out.1, hc.cell HS0.out.2.1, hc.cell HS0.out.2.2.1, hc.cell HS0.out.2.2.2.1, hc.cell HS0.out.2.2.2.2.1, hc.cell HS0.out.2.2.2.2.2.1, hc.cell HS0.out.2.2.2.2.2.2.1, hc.cell HS0.out.2.2.2.2.2.2.2.1, hc.cell HS0.out.2.2.2.2.2.2.2.2.1, hc.cell HS0.out.2.2.2.2.2.2.2.2.2.1, hc.cell HS0.out.2.2.2.2.2.2.2.2.2.2.1, hc.cell HS0.out.2.2.2.2.2.2.2.2.2.2.2.1, hc.cell HS0.out.2.2.2.2.2.2.2.2.2.2.2.2.1, hc.cell HS0.out.2.2.2.2.2.2.2.2.2.2.2.2.2.1, hc.cell HS0.out.2.2.2.2.2.2.2.2.2.2.2.2.2.2⟩)
                have HWD : Hid (Chg (fun _ => False) wj wj.drew) := Lib.hid (Chg.refl _ wj).drewR
                generalize wj.drew = wD at *
                have HCC := Lib.hid (Chg.refl (fun _ => False) wD)
                refine wpAnyH_take (i := 0) (v := ?_) rfl (by kernel_rfl) (by kernel_rfl) (by kernel_rfl) (fun _ _ _ h => h) (Or.inl ⟨by rfl, ?_⟩) (by assumption) ?_
                rotate_left
                · (intro wq hSw; (try dsimp only at hSw); go_simp; (try with_reducible rfl))
                simp only [Act.put, List.getElem_toArray, List.getElem_cons_zero, List.getElem_cons_succ, List.setIfInBounds_toArray, List.set_cons_zero, List.set_cons_succ]
                refine wpAnyH_take (i := 1) (v := ?_) rfl (by kernel_rfl) (by kernel_rfl) (by kernel_rfl) (fun _ _ _ h => h) (Or.inl ⟨by rfl, ?_⟩) (by assumption) ?_
                rotate_left
                · (intro wq hSw; (try dsimp only at hSw); go_simp; (try with_reducible rfl))
                simp only [Act.put, List.getElem_toArray, List.getElem_cons_zero, List.getElem_cons_succ, List.setIfInBounds_toArray, List.set_cons_zero, List.set_cons_succ]
                refine wpAnyH_take (i := 2) (v := ?_) rfl (by kernel_rfl) (by kernel_rfl) (by kernel_rfl) (fun _ _ _ h => h) (Or.inl ⟨by rfl, ?_⟩) (by assumption) ?_
                rotate_left
                · (intro wq hSw; (try dsimp only at hSw); go_simp; (try with_reducible rfl))
                simp only [Act.put, List.getElem_toArray, List.getElem_cons_zero, List.getElem_cons_succ, List.setIfInBounds_toArray, List.set_cons_zero, List.set_cons_succ]
                refine wpAnyH_take (i := 3) (v := ?_) rfl (by kernel_rfl) (by kernel_rfl) (by kernel_rfl) (fun _ _ _ h => h) (Or.inl ⟨by rfl, ?_⟩) (by assumption) ?_
                rotate_left
                · (intro wq hSw; (try dsimp only at hSw); go_simp; (try with_reducible rfl))
                simp only [Act.put, List.getElem_toArray, List.getElem_cons_zero, List.getElem_cons_succ, List.setIfInBounds_toArray, List.set_cons_zero, List.set_cons_succ]
                refine wpAnyH_take (i := 4) (v := ?_) rfl (by kernel_rfl) (by kernel_rfl) (by kernel_rfl) (fun _ _ _ h => h) (Or.inl ⟨by rfl, ?_⟩) (by assumption) ?_
                rotate_left
                · (intro wq hSw; (try dsimp only at hSw); go_simp; (try with_reducible rfl))
                simp only [Act.put, List.getElem_toArray, List.getElem_cons_zero, List.getElem_cons_succ, List.setIfInBounds_toArray, List.set_cons_zero, List.set_cons_succ]
                refine wpAnyH_take (i := 5) (v := ?_) rfl (by kernel_rfl) (by kernel_rfl) (by kernel_rfl) (fun _ _ _ h => h) (Or.inl ⟨by rfl, ?_⟩) (by assumption) ?_
                rotate_left
                · (intro wq hSw; (try dsimp only at hSw); go_simp; (try with_reducible rfl))
                simp only [Act.put, List.getElem_toArray, List.getElem_cons_zero, List.getElem_cons_succ, List.setIfInBounds_toArray, List.set_cons_zero, List.set_cons_succ]
                refine wpAnyH_take (i := 6) (v := ?_) rfl (by kernel_rfl) (by kernel_rfl) (by kernel_rfl) (fun _ _ _ h => h) (Or.inl ⟨by rfl, ?_⟩) (by assumption) ?_
                rotate_left
                · (intro wq hSw; (try dsimp only at hSw); go_simp; (try with_reducible rfl))
                simp only [Act.put, List.getElem_toArray, List.getElem_cons_zero, List.getElem_cons_succ, List.setIfInBounds_toArray, List.set_cons_zero, List.set_cons_succ]
                refine wpAnyH_take (i := 7) (v := ?_) rfl (by kernel_rfl) (by kernel_rfl) (by kernel_rfl) (fun _ _ _ h => h) (Or.inl ⟨by rfl, ?_⟩) (by assumption) ?_
                rotate_left
                · (intro wq hSw; (try dsimp only at hSw); go_simp; (try with_reducible rfl))
                simp only [Act.put, List.getElem_toArray, List.getElem_cons_zero, List.getElem_cons_succ, List.setIfInBounds_toArray, List.set_cons_zero, List.set_cons_succ]
                first
                | (refine wpAnyH_take (i := 8) (v := undef) rfl (by kernel_rfl) (by kernel_rfl) (by kernel_rfl) (fun _ _ _ h => h) (Or.inr ⟨by rfl, rfl⟩) (by assumption) ?_)
                | (refine wpAnyH_take (i := 8) (v := ?_) rfl (by kernel_rfl) (by kernel_rfl) (by kernel_rfl) (fun _ _ _ h => h) (Or.inl ⟨by rfl, ?_⟩) (by assumption) ?_; rotate_left; (focus (intro wq hSw; (try dsimp only at hSw); go_simp; (try with_reducible rfl))))
                simp only [Act.put, List.getElem_toArray, List.getElem_cons_zero, List.getElem_cons_succ, List.setIfInBounds_toArray, List.set_cons_zero, List.set_cons_succ]
                first
                | (refine wpAnyH_take (i := 9) (v := undef) rfl (by kernel_rfl) (by kernel_rfl) (by kernel_rfl) (fun _ _ _ h => h) (Or.inr ⟨by rfl, rfl⟩) (by assumption) ?_)
                | (refine wpAnyH_take (i := 9) (v := ?_) rfl (by kernel_rfl) (by kernel_rfl) (by kernel_rfl) (fun _ _ _ h => h) (Or.inl ⟨by rfl, ?_⟩) (by assumption) ?_; rotate_left; (focus (intro wq hSw; (try dsimp only at hSw); go_simp; (try with_reducible rfl))))
                simp only [Act.put, List.getElem_toArray, List.getElem_cons_zero, List.getElem_cons_succ, List.setIfInBounds_toArray, List.set_cons_zero, List.set_cons_succ]
                first
                | (refine wpAnyH_take (i := 10) (v := undef) rfl (by kernel_rfl) (by kernel_rfl) (by kernel_rfl) (fun _ _ _ h => h) (Or.inr ⟨by rfl, rfl⟩) (by assumption) ?_)
                | (refine wpAnyH_take (i := 10) (v := ?_) rfl (by kernel_rfl) (by kernel_rfl) (by kernel_rfl) (fun _ _ _ h => h) (Or.inl ⟨by rfl, ?_⟩) (by assumption) ?_; rotate_left; (focus (intro wq hSw; (try dsimp only at hSw); go_simp; (try with_reducible rfl))))
                simp only [Act.put, List.getElem_toArray, List.getElem_cons_zero, List.getElem_cons_succ, List.setIfInBounds_toArray, List.set_cons_zero, List.set_cons_succ]
                first
                | (refine wpAnyH_take (i := 11) (v := undef) rfl (by kernel_rfl) (by kernel_rfl) (by kernel_rfl) (fun _ _ _ h => h) (Or.inr ⟨by rfl, rfl⟩) (by assumption) ?_)
                | (refine wpAnyH_take (i := 11) (v := ?_) rfl (by kernel_rfl) (by kernel_rfl) (by kernel_rfl) (fun _ _ _ h => h) (Or.inl ⟨by rfl, ?_⟩) (by assumption) ?_; rotate_left; (focus (intro wq hSw; (try dsimp only at hSw); go_simp; (try with_reducible rfl))))
                simp only [Act.put, List.getElem_toArray, List.getElem_cons_zero, List.getElem_cons_succ, List.setIfInBounds_toArray, List.set_cons_zero, List.set_cons_succ]
                first
                | (refine wpAnyH_take (i := 12) (v := undef) rfl (by kernel_rfl) (by kernel_rfl) (by kernel_rfl) (fun _ _ _ h => h) (Or.inr ⟨by rfl, rfl⟩) (by assumption) ?_)
                | (refine wpAnyH_take (i := 12) (v := ?_) rfl (by kernel_rfl) (by kernel_rfl) (by kernel_rfl) (fun _ _ _ h => h) (Or.inl ⟨by rfl, ?_⟩) (by assumption) ?_; rotate_left; (focus (intro wq hSw; (try dsimp only at hSw); go_simp; (try with_reducible rfl))))
                simp only [Act.put, List.getElem_toArray, List.getElem_cons_zero, List.getElem_cons_succ, List.setIfInBounds_toArray, List.set_cons_zero, List.set_cons_succ]
                first
                | (refine wpAnyH_take (i := 13) (v := undef) rfl (by kernel_rfl) (by kernel_rfl) (by kernel_rfl) (fun _ _ _ h => h) (Or.inr ⟨by rfl, rfl⟩) (by assumption) ?_)
                | (refine wpAnyH_take (i := 13) (v := ?_) rfl (by kernel_rfl) (by kernel_rfl) (by kernel_rfl) (fun _ _ _ h => h) (Or.inl ⟨by rfl, ?_⟩) (by assumption) ?_; rotate_left; (focus (intro wq hSw; (try dsimp only at hSw); go_simp; (try with_reducible rfl))))
                simp only [Act.put, List.getElem_toArray, List.getElem_cons_zero, List.getElem_cons_succ, List.setIfInBounds_toArray, List.set_cons_zero, List.set_cons_succ]
                first
                | (refine wpAnyH_take (i := 14) (v := undef) rfl (by kernel_rfl) (by kernel_rfl) (by kernel_rfl) (fun _ _ _ h => h) (Or.inr ⟨by rfl, rfl⟩) (by assumption) ?_)
                | (refine wpAnyH_take (i := 14) (v := ?_) rfl (by kernel_rfl) (by kernel_rfl) (by kernel_rfl) (fun _ _ _ h => h) (Or.inl ⟨by rfl, ?_⟩) (by assumption) ?_; rotate_left; (focus (intro wq hSw; (try dsimp only at hSw); go_simp; (try with_reducible rfl))))
                simp only [Act.put, List.getElem_toArray, List.getElem_cons_zero, List.getElem_cons_succ, List.setIfInBounds_toArray, List.set_cons_zero, List.set_cons_succ]
                first
                | (refine wpAnyH_take (i := 15) (v := undef) rfl (by kernel_rfl) (by kernel_rfl) (by kernel_rfl) (fun _ _ _ h => h) (Or.inr ⟨by rfl, rfl⟩) (by assumption) ?_)
                | (refine wpAnyH_take (i := 15) (v := ?_) rfl (by kernel_rfl) (by kernel_rfl) (by kernel_rfl) (fun _ _ _ h => h) (Or.inl ⟨by rfl, ?_⟩) (by assumption) ?_; rotate_left; (focus (intro wq hSw; (try dsimp only at hSw); go_simp; (try with_reducible rfl))))
                simp only [Act.put, List.getElem_toArray, List.getElem_cons_zero, List.getElem_cons_succ, List.setIfInBounds_toArray, List.set_cons_zero, List.set_cons_succ]
                first
                | (refine wpAnyH_take (i := 16) (v := undef) rfl (by kernel_rfl) (by kernel_rfl) (by kernel_rfl) (fun _ _ _ h => h) (Or.inr ⟨by rfl, rfl⟩) (by assumption) ?_)
                | (refine wpAnyH_take (i := 16) (v := ?_) rfl (by kernel_rfl) (by kernel_rfl) (by kernel_rfl) (fun _ _ _ h => h) (Or.inl ⟨by rfl, ?_⟩) (by assumption) ?_; rotate_left; (focus (intro wq hSw; (try dsimp only at hSw); go_simp; (try with_reducible rfl))))
                simp only [Act.put, List.getElem_toArray, List.getElem_cons_zero, List.getElem_cons_succ, List.setIfInBounds_toArray, List.set_cons_zero, List.set_cons_succ]
                first
                | (refine wpAnyH_take (i := 17) (v := undef) rfl (by kernel_rfl) (by kernel_rfl) (by kernel_rfl) (fun _ _ _ h => h) (Or.inr ⟨by rfl, rfl⟩) (by assumption) ?_)
                | (refine wpAnyH_take (i := 17) (v := ?_) rfl (by kernel_rfl) (by kernel_rfl) (by kernel_rfl) (fun _ _ _ h => h) (Or.inl ⟨by rfl, ?_⟩) (by assumption) ?_; rotate_left; (focus (intro wq hSw; (try dsimp only at hSw); go_simp; (try with_reducible rfl))))
                simp only [Act.put, List.getElem_toArray, List.getElem_cons_zero, List.getElem_cons_succ, List.setIfInBounds_toArray, List.set_cons_zero, List.set_cons_succ]
                first
                | (refine wpAnyH_take (i := 18) (v := undef) rfl (by kernel_rfl) (by kernel_rfl) (by kernel_rfl) (fun _ _ _ h => h) (Or.inr ⟨by rfl, rfl⟩) (by assumption) ?_)
                | (refine wpAnyH_take (i := 18) (v := ?_) rfl (by kernel_rfl) (by kernel_rfl) (by kernel_rfl) (fun _ _ _ h => h) (Or.inl ⟨by rfl, ?_⟩) (by assumption) ?_; rotate_left; (focus (intro wq hSw; (try dsimp only at hSw); go_simp; (try with_reducible rfl))))
                simp only [Act.put, List.getElem_toArray, List.getElem_cons_zero, List.getElem_cons_succ, List.setIfInBounds_toArray, List.set_cons_zero, List.set_cons_succ]
                first
                | (refine wpAnyH_take (i := 19) (v := undef) rfl (by kernel_rfl) (by kernel_rfl) (by kernel_rfl) (fun _ _ _ h => h) (Or.inr ⟨by rfl, rfl⟩) (by assumption) ?_)
                | (refine wpAnyH_take (i := 19) (v := ?_) rfl (by kernel_rfl) (by kernel_rfl) (by kernel_rfl) (fun _ _ _ h => h) (Or.inl ⟨by rfl, ?_⟩) (by assumption) ?_; rotate_left; (focus (intro wq hSw; (try dsimp only at hSw); go_simp; (try with_reducible rfl))))
                simp only [Act.put, List.getElem_toArray, List.getElem_cons_zero, List.getElem_cons_succ, List.setIfInBounds_toArray, List.set_cons_zero, List.set_cons_succ]
                first
                | (refine wpAnyH_take (i := 20) (v := undef) rfl (by kernel_rfl) (by kernel_rfl) (by kernel_rfl) (fun _ _ _ h => h) (Or.inr ⟨by rfl, rfl⟩) (by assumption) ?_)
                | (refine wpAnyH_take (i := 20) (v := ?_) rfl (by kernel_rfl) (by kernel_rfl) (by kernel_rfl) (fun _ _ _ h => h) (Or.inl ⟨by rfl, ?_⟩) (by assumption) ?_; rotate_left; (focus (intro wq hSw; (try dsimp only at hSw); go_simp; (try with_reducible rfl))))
                simp only [Act.put, List.getElem_toArray, List.getElem_cons_zero, List.getElem_cons_succ, List.setIfInBounds_toArray, List.set_cons_zero, List.set_cons_succ]
                first
                | (refine wpAnyH_take (i := 21) (v := undef) rfl (by kernel_rfl) (by kernel_rfl) (by kernel_rfl) (fun _ _ _ h => h) (Or.inr ⟨by rfl, rfl⟩) (by assumption) ?_)
                | (refine wpAnyH_take (i := 21) (v := ?_) rfl (by kernel_rfl) (by kernel_rfl) (by kernel_rfl) (fun _ _ _ h => h) (Or.inl ⟨by rfl, ?_⟩) (by assumption) ?_; rotate_left; (focus (intro wq hSw; (try dsimp only at hSw); go_simp; (try with_reducible rfl))))
                simp only [Act.put, List.getElem_toArray, List.getElem_cons_zero, List.getElem_cons_succ, List.setIfInBounds_toArray, List.set_cons_zero, List.set_cons_succ]
                first
                | (refine wpAnyH_take (i := 22) (v := undef) rfl (by kernel_rfl) (by kernel_rfl) (by kernel_rfl) (fun _ _ _ h => h) (Or.inr ⟨by rfl, rfl⟩) (by assumption) ?_)
                | (refine wpAnyH_take (i := 22) (v := ?_) rfl (by kernel_rfl) (by kernel_rfl) (by kernel_rfl) (fun _ _ _ h => h) (Or.inl ⟨by rfl, ?_⟩) (by assumption) ?_; rotate_left; (focus (intro wq hSw; (try dsimp only at hSw); go_simp; (try with_reducible rfl))))
                simp only [Act.put, List.getElem_toArray, List.getElem_cons_zero, List.getElem_cons_succ, List.setIfInBounds_toArray, List.set_cons_zero, List.set_cons_succ]
                first
                | (refine wpAnyH_take (i := 23) (v := undef) rfl (by kernel_rfl) (by kernel_rfl) (by kernel_rfl) (fun _ _ _ h => h) (Or.inr ⟨by rfl, rfl⟩) (by assumption) ?_)
                | (refine wpAnyH_take (i := 23) (v := ?_) rfl (by kernel_rfl) (by kernel_rfl) (by kernel_rfl) (fun _ _ _ h => h) (Or.inl ⟨by rfl, ?_⟩) (by assumption) ?_; rotate_left; (focus (intro wq hSw; (try dsimp only at hSw); go_simp; (try with_reducible rfl))))
                simp only [Act.put, List.getElem_toArray, List.getElem_cons_zero, List.getElem_cons_succ, List.setIfInBounds_toArray, List.set_cons_zero, List.set_cons_succ]
                first
                | (refine wpAnyH_take (i := 24) (v := undef) rfl (by kernel_rfl) (by kernel_rfl) (by kernel_rfl) (fun _ _ _ h => h) (Or.inr ⟨by rfl, rfl⟩) (by assumption) ?_)
                | (refine wpAnyH_take (i := 24) (v := ?_) rfl (by kernel_rfl) (by kernel_rfl) (by kernel_rfl) (fun _ _ _ h => h) (Or.inl ⟨by rfl, ?_⟩) (by assumption) ?_; rotate_left; (focus (intro wq hSw; (try dsimp only at hSw); go_simp; (try with_reducible rfl))))
                simp only [Act.put, List.getElem_toArray, List.getElem_cons_zero, List.getElem_cons_succ, List.setIfInBounds_toArray, List.set_cons_zero, List.set_cons_succ]
                refine wpAnyH_ready (rs := [25]) (by kernel_rfl) (by simp) ?_
                refine AllReadyH.cons (by simp only [List.getElem?_toArray, List.getElem?_cons_succ, List.getElem?_cons_zero]; rfl) (fun K hK => ?_) AllReadyH.nil
                (go_simp; go_at_call 17; refine (HRF.out _ _).mono ?_; rintro _ wd ⟨rfl, hcd⟩; have HCC := Lib.hid (HCC.out.trans' hcd); clear hcd; go_simp)
                refine hK.out _ _ ?_ (fun hHeld => ?_)
                · (first | exact HS0.out | exact HKS.out _ HCC.out)
                clear hK K
                (try simp only [Act.put, List.getElem_toArray, List.getElem_cons_zero, List.getElem_cons_succ, List.setIfInBounds_toArray, List.set_cons_zero, List.set_cons_succ])
                first
                | (refine wpAnyH_take (i := 26) (v := undef) rfl (by kernel_rfl) (by kernel_rfl) (by kernel_rfl) (fun _ _ _ h => h) (Or.inr ⟨by rfl, rfl⟩) (by assumption) ?_)
                | (refine wpAnyH_take (i := 26) (v := ?_) rfl (by kernel_rfl) (by kernel_rfl) (by kernel_rfl) (fun _ _ _ h => h) (Or.inl ⟨by rfl, ?_⟩) (by assumption) ?_; rotate_left; (focus (intro wq hSw; (try dsimp only at hSw); go_simp; (try with_reducible rfl))))
                simp only [Act.put, List.getElem_toArray, List.getElem_cons_zero, List.getElem_cons_succ, List.setIfInBounds_toArray, List.set_cons_zero, List.set_cons_succ]
                refine wpAnyH_take (i := 27) (v := ?_) rfl (by kernel_rfl) (by kernel_rfl) (by kernel_rfl) (fun _ _ _ h => h) (Or.inl ⟨by rfl, ?_⟩) (by assumption) ?_
                rotate_left
                · (intro wq hSw; (try dsimp only at hSw); go_simp; (try with_reducible rfl))
                simp only [Act.put, List.getElem_toArray, List.getElem_cons_zero, List.getElem_cons_succ, List.setIfInBounds_toArray, List.set_cons_zero, List.set_cons_succ]
                refine wpAnyH_take (i := 28) (v := ?_) rfl (by kernel_rfl) (by kernel_rfl) (by kernel_rfl) (fun _ _ _ h => h) (Or.inl ⟨by rfl, ?_⟩) (by assumption) ?_
                rotate_left
                · (intro wq hSw; (try dsimp only at hSw); go_simp; (try with_reducible rfl))
                simp only [Act.put, List.getElem_toArray, List.getElem_cons_zero, List.getElem_cons_succ, List.setIfInBounds_toArray, List.set_cons_zero, List.set_cons_succ]
                first
                | (refine wpAnyH_take (i := 29) (v := undef) rfl (by kernel_rfl) (by kernel_rfl) (by kernel_rfl) (fun _ _ _ h => h) (Or.inr ⟨by rfl, rfl⟩) (by assumption) ?_)
                | (refine wpAnyH_take (i := 29) (v := ?_) rfl (by kernel_rfl) (by kernel_rfl) (by kernel_rfl) (fun _ _ _ h => h) (Or.inl ⟨by rfl, ?_⟩) (by assumption) ?_; rotate_left; (focus (intro wq hSw; (try dsimp only at hSw); go_simp; (try with_reducible rfl))))
                simp only [Act.put, List.getElem_toArray, List.getElem_cons_zero, List.getElem_cons_succ, List.setIfInBounds_toArray, List.set_cons_zero, List.set_cons_succ]
                first
                | (refine wpAnyH_take (i := 30) (v := undef) rfl (by kernel_rfl) (by kernel_rfl) (by kernel_rfl) (fun _ _ _ h => h) (Or.inr ⟨by rfl, rfl⟩) (by assumption) ?_)
                | (refine wpAnyH_take (i := 30) (v := ?_) rfl (by kernel_rfl) (by kernel_rfl) (by kernel_rfl) (fun _ _ _ h => h) (Or.inl ⟨by rfl, ?_⟩) (by assumption) ?_; rotate_left; (focus (intro wq hSw; (try dsimp only at hSw); go_simp; (try with_reducible rfl))))
                simp only [Act.put, List.getElem_toArray, List.getElem_cons_zero, List.getElem_cons_succ, List.setIfInBounds_toArray, List.set_cons_zero, List.set_cons_succ]
                first
                | (refine wpAnyH_take (i := 31) (v := undef) rfl (by kernel_rfl) (by kernel_rfl) (by kernel_rfl) (fun _ _ _ h => h) (Or.inr ⟨by rfl, rfl⟩) (by assumption) ?_)
                | (refine wpAnyH_take (i := 31) (v := ?_) rfl (by kernel_rfl) (by kernel_rfl) (by kernel_rfl) (fun _ _ _ h => h) (Or.inl ⟨by rfl, ?_⟩) (by assumption) ?_; rotate_left; (focus (intro wq hSw; (try dsimp only at hSw); go_simp; (try with_reducible rfl))))
                simp only [Act.put, List.getElem_toArray, List.getElem_cons_zero, List.getElem_cons_succ, List.setIfInBounds_toArray, List.set_cons_zero, List.set_cons_succ]
                first
                | (refine wpAnyH_take (i := 32) (v := undef) rfl (by kernel_rfl) (by kernel_rfl) (by kernel_rfl) (fun _ _ _ h => h) (Or.inr ⟨by rfl, rfl⟩) (by assumption) ?_)
                | (refine wpAnyH_take (i := 32) (v := ?_) rfl (by kernel_rfl) (by kernel_rfl) (by kernel_rfl) (fun _ _ _ h => h) (Or.inl ⟨by rfl, ?_⟩) (by assumption) ?_; rotate_left; (focus (intro wq hSw; (try dsimp only at hSw); go_simp; (try with_reducible rfl))))
                simp only [Act.put, List.getElem_toArray, List.getElem_cons_zero, List.getElem_cons_succ, List.setIfInBounds_toArray, List.set_cons_zero, List.set_cons_succ]
                first
                | (refine wpAnyH_take (i := 33) (v := undef) rfl (by kernel_rfl) (by kernel_rfl) (by kernel_rfl) (fun _ _ _ h => h) (Or.inr ⟨by rfl, rfl⟩) (by assumption) ?_)
                | (refine wpAnyH_take (i := 33) (v := ?_) rfl (by kernel_rfl) (by kernel_rfl) (by kernel_rfl) (fun _ _ _ h => h) (Or.inl ⟨by rfl, ?_⟩) (by assumption) ?_; rotate_left; (focus (intro wq hSw; (try dsimp only at hSw); go_simp; (try with_reducible rfl))))
                simp only [Act.put, List.getElem_toArray, List.getElem_cons_zero, List.getElem_cons_succ, List.setIfInBounds_toArray, List.set_cons_zero, List.set_cons_succ]
                first
                | (refine wpAnyH_take (i := 34) (v := undef) rfl (by kernel_rfl) (by kernel_rfl) (by kernel_rfl) (fun _ _ _ h => h) (Or.inr ⟨by rfl, rfl⟩) (by assumption) ?_)
                | (refine wpAnyH_take (i := 34) (v := ?_) rfl (by kernel_rfl) (by kernel_rfl) (by kernel_rfl) (fun _ _ _ h => h) (Or.inl ⟨by rfl, ?_⟩) (by assumption) ?_; rotate_left; (focus (intro wq hSw; (try dsimp only at hSw); go_simp; (try with_reducible rfl))))
                simp only [Act.put, List.getElem_toArray, List.getElem_cons_zero, List.getElem_cons_succ, List.setIfInBounds_toArray, List.set_cons_zero, List.set_cons_succ]
                first
                | (refine wpAnyH_take (i := 35) (v := undef) rfl (by kernel_rfl) (by kernel_rfl) (by kernel_rfl) (fun _ _ _ h => h) (Or.inr ⟨by rfl, rfl⟩) (by assumption) ?_)
                | (refine wpAnyH_take (i := 35) (v := ?_) rfl (by kernel_rfl) (by kernel_rfl) (by kernel_rfl) (fun _ _ _ h => h) (Or.inl ⟨by rfl, ?_⟩) (by assumption) ?_; rotate_left; (focus (intro wq hSw; (try dsimp only at hSw); go_simp; (try with_reducible rfl))))
                simp only [Act.put, List.getElem_toArray, List.getElem_cons_zero, List.getElem_cons_succ, List.setIfInBounds_toArray, List.set_cons_zero, List.set_cons_succ]
                first
                | (refine wpAnyH_take (i := 36) (v := undef) rfl (by kernel_rfl) (by kernel_rfl) (by kernel_rfl) (fun _ _ _ h => h) (Or.inr ⟨by rfl, rfl⟩) (by assumption) ?_)
                | (refine wpAnyH_take (i := 36) (v := ?_) rfl (by kernel_rfl) (by kernel_rfl) (by kernel_rfl) (fun _ _ _ h => h) (Or.inl ⟨by rfl, ?_⟩) (by assumption) ?_; rotate_left; (focus (intro wq hSw; (try dsimp only at hSw); go_simp; (try with_reducible rfl))))
                simp only [Act.put, List.getElem_toArray, List.getElem_cons_zero, List.getElem_cons_succ, List.setIfInBounds_toArray, List.set_cons_zero, List.set_cons_succ]
                first
                | (refine wpAnyH_take (i := 37) (v := undef) rfl (by kernel_rfl) (by kernel_rfl) (by kernel_rfl) (fun _ _ _ h => h) (Or.inr ⟨by rfl, rfl⟩) (by assumption) ?_)
                | (refine wpAnyH_take (i := 37) (v := ?_) rfl (by kernel_rfl) (by kernel_rfl) (by kernel_rfl) (fun _ _ _ h => h) (Or.inl ⟨by rfl, ?_⟩) (by assumption) ?_; rotate_left; (focus (intro wq hSw; (try dsimp only at hSw); go_simp; (try with_reducible rfl))))
                simp only [Act.put, List.getElem_toArray, List.getElem_cons_zero, List.getElem_cons_succ, List.setIfInBounds_toArray, List.set_cons_zero, List.set_cons_succ]
                first
                | (refine wpAnyH_take (i := 38) (v := undef) rfl (by kernel_rfl) (by kernel_rfl) (by kernel_rfl) (fun _ _ _ h => h) (Or.inr ⟨by rfl, rfl⟩) (by assumption) ?_)
                | (refine wpAnyH_take (i := 38) (v := ?_) rfl (by kernel_rfl) (by kernel_rfl) (by kernel_rfl) (fun _ _ _ h => h) (Or.inl ⟨by rfl, ?_⟩) (by assumption) ?_; rotate_left; (focus (intro wq hSw; (try dsimp only at hSw); go_simp; (try with_reducible rfl))))
                simp only [Act.put, List.getElem_toArray, List.getElem_cons_zero, List.getElem_cons_succ, List.setIfInBounds_toArray, List.set_cons_zero, List.set_cons_succ]
                first
                | (refine wpAnyH_take (i := 39) (v := undef) rfl (by kernel_rfl) (by kernel_rfl) (by kernel_rfl) (fun _ _ _ h => h) (Or.inr ⟨by rfl, rfl⟩) (by assumption) ?_)
                | (refine wpAnyH_take (i := 39) (v := ?_) rfl (by kernel_rfl) (by kernel_rfl) (by kernel_rfl) (fun _ _ _ h => h) (Or.inl ⟨by rfl, ?_⟩) (by assumption) ?_; rotate_left; (focus (intro wq hSw; (try dsimp only at hSw); go_simp; (try with_reducible rfl))))
                simp only [Act.put, List.getElem_toArray, List.getElem_cons_zero, List.getElem_cons_succ, List.setIfInBounds_toArray, List.set_cons_zero, List.set_cons_succ]
                first
                | (refine wpAnyH_take (i := 40) (v := undef) rfl (by kernel_rfl) (by kernel_rfl) (by kernel_rfl) (fun _ _ _ h => h) (Or.inr ⟨by rfl, rfl⟩) (by assumption) ?_)
                | (refine wpAnyH_take (i := 40) (v := ?_) rfl (by kernel_rfl) (by kernel_rfl) (by kernel_rfl) (fun _ _ _ h => h) (Or.inl ⟨by rfl, ?_⟩) (by assumption) ?_; rotate_left; (focus (intro wq hSw; (try dsimp only at hSw); go_simp; (try with_reducible rfl))))
                simp only [Act.put, List.getElem_toArray, List.getElem_cons_zero, List.getElem_cons_succ, List.setIfInBounds_toArray, List.set_cons_zero, List.set_cons_succ]
                first
                | (refine wpAnyH_take (i := 41) (v := undef) rfl (by kernel_rfl) (by kernel_rfl) (by kernel_rfl) (fun _ _ _ h => h) (Or.inr ⟨by rfl, rfl⟩) (by assumption) ?_)
                | (refine wpAnyH_take (i := 41) (v := ?_) rfl (by kernel_rfl) (by kernel_rfl) (by kernel_rfl) (fun _ _ _ h => h) (Or.inl ⟨by rfl, ?_⟩) (by assumption) ?_; rotate_left; (focus (intro wq hSw; (try dsimp only at hSw); go_simp; (try with_reducible rfl))))
                simp only [Act.put, List.getElem_toArray, List.getElem_cons_zero, List.getElem_cons_succ, List.setIfInBounds_toArray, List.set_cons_zero, List.set_cons_succ]
                first
                | (refine wpAnyH_take (i := 42) (v := undef) rfl (by kernel_rfl) (by kernel_rfl) (by kernel_rfl) (fun _ _ _ h => h) (Or.inr ⟨by rfl, rfl⟩) (by assumption) ?_)
                | (refine wpAnyH_take (i := 42) (v := ?_) rfl (by kernel_rfl) (by kernel_rfl) (by kernel_rfl) (fun _ _ _ h => h) (Or.inl ⟨by rfl, ?_⟩) (by assumption) ?_; rotate_left; (focus (intro wq hSw; (try dsimp only at hSw); go_simp; (try with_reducible rfl))))
                simp only [Act.put, List.getElem_toArray, List.getElem_cons_zero, List.getElem_cons_succ, List.setIfInBounds_toArray, List.set_cons_zero, List.set_cons_succ]
                first
                | (refine wpAnyH_take (i := 43) (v := undef) rfl (by kernel_rfl) (by kernel_rfl) (by kernel_rfl) (fun _ _ _ h => h) (Or.inr ⟨by rfl, rfl⟩) (by assumption) ?_)
                | (refine wpAnyH_take (i := 43) (v := ?_) rfl (by kernel_rfl) (by kernel_rfl) (by kernel_rfl) (fun _ _ _ h => h) (Or.inl ⟨by rfl, ?_⟩) (by assumption) ?_; rotate_left; (focus (intro wq hSw; (try dsimp only at hSw); go_simp; (try with_reducible rfl))))
                simp only [Act.put, List.getElem_toArray, List.getElem_cons_zero, List.getElem_cons_succ, List.setIfInBounds_toArray, List.set_cons_zero, List.set_cons_succ]
                first
                | (refine wpAnyH_take (i := 44) (v := undef) rfl (by kernel_rfl) (by kernel_rfl) (by kernel_rfl) (fun _ _ _ h => h) (Or.inr ⟨by rfl, rfl⟩) (by assumption) ?_)
                | (refine wpAnyH_take (i := 44) (v := ?_) rfl (by kernel_rfl) (by kernel_rfl) (by kernel_rfl) (fun _ _ _ h => h) (Or.inl ⟨by rfl, ?_⟩) (by assumption) ?_; rotate_left; (focus (intro wq hSw; (try dsimp only at hSw); go_simp; (try with_reducible rfl))))
                simp only [Act.put, List.getElem_toArray, List.getElem_cons_zero, List.getElem_cons_succ, List.setIfInBounds_toArray, List.set_cons_zero, List.set_cons_succ]
                first
                | (refine wpAnyH_take (i := 45) (v := undef) rfl (by kernel_rfl) (by kernel_rfl) (by kernel_rfl) (fun _ _ _ h => h) (Or.inr ⟨by rfl, rfl⟩) (by assumption) ?_)
                | (refine wpAnyH_take (i := 45) (v := ?_) rfl (by kernel_rfl) (by kernel_rfl) (by kernel_rfl) (fun _ _ _ h => h) (Or.inl ⟨by rfl, ?_⟩) (by assumption) ?_; rotate_left; (focus (intro wq hSw; (try dsimp only at hSw); go_simp; (try with_reducible rfl))))
                simp only [Act.put, List.getElem_toArray, List.getElem_cons_zero, List.getElem_cons_succ, List.setIfInBounds_toArray, List.set_cons_zero, List.set_cons_succ]
                first
                | (refine wpAnyH_take (i := 46) (v := undef) rfl (by kernel_rfl) (by kernel_rfl) (by kernel_rfl) (fun _ _ _ h => h) (Or.inr ⟨by rfl, rfl⟩) (by assumption) ?_)
                | (refine wpAnyH_take (i := 46) (v := ?_) rfl (by kernel_rfl) (by kernel_rfl) (by kernel_rfl) (fun _ _ _ h => h) (Or.inl ⟨by rfl, ?_⟩) (by assumption) ?_; rotate_left; (focus (intro wq hSw; (try dsimp only at hSw); go_simp; (try with_reducible rfl))))
                simp only [Act.put, List.getElem_toArray, List.getElem_cons_zero, List.getElem_cons_succ, List.setIfInBounds_toArray, List.set_cons_zero, List.set_cons_succ]
                refine wpAnyH_ready (rs := [47]) (by kernel_rfl) (by simp) ?_
                refine AllReadyH.cons (by simp only [List.getElem?_toArray, List.getElem?_cons_succ, List.getElem?_cons_zero]; rfl) (fun K hK => ?_) AllReadyH.nil
                (go_simp; go_at_call 17; refine (HRF.out _ _).mono ?_; rintro _ wd ⟨rfl, hcd⟩; have HCC := Lib.hid (HCC.out.trans' hcd); clear hcd; go_simp)
                refine hK.out _ _ ?_ (fun hHeld => ?_)
                · (first | exact HS0.out | exact HKS.out _ HCC.out)
                clear hK K
                (try simp only [Act.put, List.getElem_toArray, List.getElem_cons_zero, List.getElem_cons_succ, List.setIfInBounds_toArray, List.set_cons_zero, List.set_cons_succ])
                first
                | (refine wpAnyH_take (i := 48) (v := undef) rfl (by kernel_rfl) (by kernel_rfl) (by kernel_rfl) (fun _ _ _ h => h) (Or.inr ⟨by rfl, rfl⟩) (by assumption) ?_)
                | (refine wpAnyH_take (i := 48) (v := ?_) rfl (by kernel_rfl) (by kernel_rfl) (by kernel_rfl) (fun _ _ _ h => h) (Or.inl ⟨by rfl, ?_⟩) (by assumption) ?_; rotate_left; (focus (intro wq hSw; (try dsimp only at hSw); go_simp; (try with_reducible rfl))))
                simp only [Act.put, List.getElem_toArray, List.getElem_cons_zero, List.getElem_cons_succ, List.setIfInBounds_toArray, List.set_cons_zero, List.set_cons_succ]
                refine wpAnyH_done (by kernel_rfl) ?_ _
                change wpList _ _ _ _ _ _
                simp only [List.drop_succ_cons, List.drop_zero]
                go_wp2_with fail
                go_roundw
                case rel => exact ⟨j + 1, k + 1, HNJ.out, rfl, rfl, HKN, Lib.hid ((HCJ.out.trans' HWD.out).trans' HCC.out)⟩
                case measure => have := HJL.out; simp [intOf, wj64]; omega
            · have hj2 : x.keys.length = j := by omega
              subst hj2
              have cb4 := HCJ.out.cell HB4.out
              have HKE : Hid (2 * k = o.data.length ∧ k ≤ 420) := Lib.hid (by
                have h1 := pair_len (fun q : Nat × Nat => refV (hOf 9 2 q.1)) (fun q => refV (hOf 9 2 q.2)) (keptW X x)
                rw [← HDA.out] at h1
                have h2 := keptN_all X x HKV.out
                have h3 := keptN_le X x x.keys.length
                have := HK.out; omega)
              have w2k : IntKind.i64.wrap (2 * (k : Int)) = (o.data.length : Int) := by have := HKE.out; rw [show (2 * (k : Int)) = (o.data.length : Int) by omega]; exact IntWalk.i64_in _ (by omega)
              have zd : ((o.data.length : Int) != (o.data.length : Int)) = false := bne_self_eq_false ..
              clear hjl hj
              go_wp2_with fail
              go_roundw
              case rel => exact ⟨i + 1, HNX.out, rfl, Lib.hid (HALL.out.trans' HCJ.out)⟩
              case measure => have := HLT.out; simp [intOf, w64]; omega
    · have hi2 : n = i := by omega
      subst hi2
      clear hlt hi
      have HLB := Lib.hid (HLA.out wr (HC11.out.trans' HCR.out))
      go_upto_region 31 with (go_at_call 10; refine HLB.out.mono ?_; rintro e w12 ⟨v12, rfl, HO12⟩)
      obtain ⟨a12, c12, rfl, -, -⟩ := HO12.val
      have HV12 := Lib.hid (HV9.out.chg ((HC11.out.trans' HCR.out).trans' HO12.chg) (fun _ _ x => x))
      have HCE := Lib.hid (((HC9.out.trans' HC11.out).trans' HCR.out).trans' HO12.chg)
      rw [List.length_map] at HO12 ⊢
      have H12 := Lib.hid HO12
      have zl : ((Lv.length : Int) != (Lv.length : Int)) = false := bne_self_eq_false ..
      have ll28 : (Lv.length : Int) ≤ 28 := by have := HQL.out; omega
      clear HO12 HLB
      go_wp2_with fail
      clear zl
      go_loopw [18] (fun u18 wy => ∃ (q : Nat), q ≤ Lv.length ∧ u18 = .int .i64 q ∧ Hid (Chg (fun _ => False) w12 wy)) (fun u18 _ => Lv.length - (intOf u18).toNat)
      case atStart => exact ⟨0, by omega, rfl, Lib.hid (Chg.refl _ _)⟩
      case round =>
        rename World => wy
        obtain ⟨q, hq, rfl, HCY⟩ := hrel
        by_cases hql : q < Lv.length
        · have q0 : (0 : Int) ≤ (q : Int) := by omega
          have q1 : (q : Int) < (Lv.length : Int) := by omega
          have wq64 : IntKind.i64.wrap ((q : Int) + 1) = ((q + 1 : Nat) : Int) := IntWalk.i64_in _ (by omega)
          obtain ⟨g6, o6, k6, hv, p6⟩ := H12.out.at (k := q) (by rw [List.length_map]; exact hql)
          rw [List.length_map] at hv
          cases hv
          obtain ⟨g7, o7, k7, hv, -, -⟩ := HV12.out.addr (by omega)
          cases hv
          have p7 := HV12.out.cellAt q (.int .i64 (handleM hp.base hp.stride (Lv[q] : Nat))) (by unfold intC; rw [List.getElem?_map, List.getElem?_map, List.getElem?_eq_getElem hql]; rfl)
          rw [List.getElem_map] at p6
          clear hq
          generalize handleM hp.base hp.stride (Lv[q] : Nat) = hh at *
          have zh : (hh != hh) = false := bne_self_eq_false ..
          have HQL2 := Lib.hid hql
          have HNQ := Lib.hid (show q + 1 ≤ Lv.length from hql)
          have r6 := HCY.out.cell p6
          have r7 := HCY.out.cell p7
          clear p6 p7 hql
          go_wp2_with fail
          go_quiet (fail)
          all_goals (
            go_wp2_with fail
            go_roundw
            case rel => exact ⟨q + 1, HNQ.out, rfl, Lib.hid (HCY.out.trans' (Chg.drewN _ _ _))⟩
            case measure => have := HQL2.out; simp [intOf, wq64]; omega)
        · have hq2 : q = Lv.length := by omega
          subst hq2
          clear hql hq
          go_wp2_with fail
          go_ret
          exact ⟨rfl, (HCE.out.trans' HCY.out).below (Nat.le_refl _) (fun _ h => h.elim)⟩
theorem collectSweeps_walk (g : GA) (w : World) (hg : GAOk w g) :
    Calls Try.prog 5 #[g.val] w fun e w' => e = .returned (.bool true) ∧ Below w.heap.size w w' := by
  by_cases h : 60 < g.ks.length ∨ 10 < g.zs.length ∨ 10 < g.ps.length
  · exact collectSweeps_none g w hg (by unfold countM; rw [if_pos h])
  · exact collectSweeps_some g w hg h
open Go.ChangeShapes Go.WideShapes Go.ChangeAt Go.RowKit
open Go.ChangeMaps (open_string shut_string)
set_option maxRecDepth 100000 in
theorem collectSweeps_lifted (os : Os) (started : os.Started) (H : Type) (enc : TypeId × Value → H) :
    ReturnsInHanded {} Try.checked os 5 .any (Rows.collectSweepsSpec.pre6 enc Try.prog Try.f5 [] false) (Rows.collectSweepsSpec.post enc Try.prog Try.f5 false true false false) := by
  refine law_lift (C := Try.checked) (tb := 4) started Try.own Try.laidOut (by kernel_rfl) Try.func5 (by kernel_rfl) rfl Try.underlying4 rfl ?_
    (ChangeSpec.witness6 (enc := enc) (C := Try.checked) false ⟨#[], #[.agg #[.int .u8 0, .slice none 0 0, .slice none 0 0, .slice none 0 0]], []⟩ 8 (by kernel_rfl) (by kernel_rfl) (by kernel_rfl) (by kernel_rfl)) ?_
  · intro ds h
    match ds, h with
    | [_], _ => rfl
  · intro W base vs ds ps hval hA hsz
    have hp : Try.f5.params.toList = [26] := by rw [Try.params5]
    rw [hp] at hval hA hsz
    obtain ⟨v0, vs0, d0, ds0, p0, q0, rfl, rfl, rfl, h0, r0⟩ := trodAll_cons hA
    obtain ⟨rfl, rfl, rfl⟩ := trodAll_nil r0
    obtain ⟨a0, rfl, w0⟩ := open_graph (hval 0 26 v0 rfl rfl) h0
    exact collectSweeps_walk a0 W w0

theorem collectSweeps_holds : Rows.CollectSweepsSaid :=
  OpenClaim.holds_of_wide 5 Try.f5 rfl rfl rfl rfl rfl rfl rfl ⟨rfl, rfl, rfl, rfl, rfl⟩ rfl rfl rfl rfl rfl (by kernel_rfl) Try.func5 (by kernel_rfl)
    (of_decide_eq_true (by kernel_rfl)) (by unfold Func.isWrapper; first | (rw [if_pos (by decide +kernel)]; kernel_rfl) | (rw [if_neg (by decide +kernel)]; exact ⟨rfl, rfl⟩))
    (fun os started H enc _ => collectSweeps_lifted os started H enc)
#print axioms collectSweeps_holds
end Go.Proofs.Ythiiehanlconeaa
