/-
  CollectLives: the walk.
-/
import Derived.Test.YthiiehanlconeaaGra
import Derived.Test.YthiiehanlconeaaEdm
namespace Go.Proofs.Ythiiehanlconeaa
open Go.RowKit
set_option linter.unusedVariables false
set_option linter.unusedSimpArgs false

theorem fm_congr {α β : Type} {f g : α → List β} : ∀ l : List α, (∀ x ∈ l, f x = g x) → l.flatMap f = l.flatMap g
  | [], _ => rfl
  | a :: l, h => by rw [List.flatMap_cons, List.flatMap_cons, h a (by simp), fm_congr l fun x hx => h x (by simp [hx])]
theorem flatMap_pick {α : Type} (X : List α) (j : Nat) : ∀ n, (List.range n).flatMap (fun i => if i = j then X else []) = if j < n then X else []
  | 0 => rfl
  | n + 1 => by
    rw [List.range_succ, List.flatMap_append, flatMap_pick X j n]
    by_cases h1 : j < n
    · rw [if_pos h1, if_pos (by omega)]
      simp [show ¬ n = j by omega]
    · by_cases h2 : n = j
      · subst h2; simp
      · rw [if_neg h1, if_neg (by omega)]
        simp [h2]
section
variable {n p m : Nat} {b s : Int} {L : List Int} {hp : Hp} {xs : List RObj} {more : List (List Nat)}
theorem GI.inj (G : GI n b s L hp xs p m) {i j : Nat} (hi : i < n) (hj : j < n) (e : hOf b s i = hOf b s j) : i = j := by
  have h1 := G.slot hi
  have h2 := G.slot hj
  rw [e, h2] at h1
  have := Option.some.inj h1
  omega
theorem GI.len (G : GI n b s L hp xs p m) : L.length = n := by rw [G.ok.L]; simp
theorem GI.inI (G : GI n b s L hp xs p m) (y : Nat) : InI (L.getD y 0) := by
  by_cases h : y < n
  · rw [G.handle h]; exact (G.pos y h).2
  · rw [List.getD_eq_getElem?_getD, List.getElem?_eq_none (by rw [G.len]; omega)]; unfold InI; simp
theorem GI.em (G : GI n b s L hp xs p m) (hm : MoreOk n 10 more) {j : Nat} (hj : j < n) : emM L more (hOf b s j) = (more.getD j []).map (hOf b s) := by
  have hmj : j < more.length := by rw [hm.len]; exact hj
  have e1 : (more.getD j []).map (fun y => L.getD y 0) = (more.getD j []).map (hOf b s) := by
    refine List.map_congr_left fun y hy => ?_
    rw [getD_get hmj] at hy
    exact G.handle (hm.lt _ (List.getElem_mem hmj) y hy)
  have e2 : ∀ i ∈ List.range L.length, emF L more (hOf b s j) i = if i = j then (more.getD j []).map (fun y => L.getD y 0) else [] := fun i hi => by
    have hi' : i < n := by rw [← G.len]; exact List.mem_range.1 hi
    unfold emF
    rw [G.handle hi']
    by_cases e : i = j
    · subst e; rw [if_pos rfl, if_pos rfl]
    · rw [if_neg (fun x => e (G.inj hi' hj x)), if_neg e]
  unfold emM emP
  rw [← e1]
  have : (List.range L.length).flatMap (emF L more (hOf b s j)) = (List.range L.length).flatMap (fun i => if i = j then (more.getD j []).map (fun y => L.getD y 0) else []) := fm_congr _ e2
  rw [this, flatMap_pick, if_pos (by rw [G.len]; exact hj)]
theorem GI.emIn (G : GI n b s L hp xs p m) (h : Int) : ∀ r ∈ emM L more h, InI r := fun r hr => by
  unfold emM emP at hr
  obtain ⟨i, -, hr⟩ := List.mem_flatMap.1 hr
  unfold emF at hr
  split at hr
  · obtain ⟨y, -, rfl⟩ := List.mem_map.1 hr
    exact G.inI y
  · cases hr
end
set_option maxHeartbeats 12800000 in
set_option maxRecDepth 100000 in
theorem collectLives_none (g : GA) (b s : Int) (w : World) (hg : GAOk w g) (h0 : countM g.N g.ks.length g.zs.length g.ps.length = 0) :
    Calls Try.prog 3 #[g.val, .int .i64 b, .int .i64 s] w fun e w' => e = .returned (.bool true) ∧ Below w.heap.size w w' := by
  obtain ⟨N, ks, zs, ps, a1, a2, a3, c1, c2, c3⟩ := g
  have HN := hg.N
  have HCT := Lib.hid (fun W => count_any W N a1 a2 a3 ks.length zs.length ps.length c1 c2 c3 HN)
  dsimp only at h0
  rw [h0] at HCT
  have HAW := Lib.hid awake_any
  clear h0 hg HN
  show Calls Try.prog 3 #[.agg #[.int .u8 (N : Int), .slice a1 ks.length c1, .slice a2 zs.length c2, .slice a3 ps.length c3], .int .i64 b, .int .i64 s] w _
  have hcc := Chg.alloc (fun _ => False) w (.cells #[.int .u8 (N : Int), .slice a1 ks.length c1, .slice a2 zs.length c2, .slice a3 ps.length c3] 26)
  go_enter Try.func3, Try.ntmps3
  go_wp2_with (first
    | (go_at_call 6; refine (HCT.out _).mono ?_; rintro e w1 ⟨rfl, hc1⟩; have hcc := hcc.trans' hc1; clear hc1)
    | (go_at_call 7; refine (HAW.out _).mono ?_; rintro e w2 ⟨rfl, hc2⟩; have hcc := hcc.trans' hc2; clear hc2))
  go_ret
  exact ⟨rfl, hcc.below (Nat.le_refl _) (fun _ h => h.elim)⟩
set_option maxHeartbeats 12800000 in
set_option maxRecDepth 100000 in
theorem collectLives_some (g : GA) (b s : Int) (w : World) (hg : GAOk w g) (h0 : ¬ (60 < g.ks.length ∨ 10 < g.zs.length ∨ 10 < g.ps.length)) :
    Calls Try.prog 3 #[g.val, .int .i64 b, .int .i64 s] w fun e w' => e = .returned (.bool true) ∧ Below w.heap.size w w' := by
  have hn : ∃ n : Nat, countM g.N g.ks.length g.zs.length g.ps.length = n ∧ 0 < n ∧ n ≤ 16 := ⟨_, rfl, by unfold countM; rw [if_neg h0]; omega, by unfold countM; rw [if_neg h0]; omega⟩
  obtain ⟨n, hn0, hn1, hn2⟩ := hn
  obtain ⟨N, ks, zs, ps, a1, a2, a3, c1, c2, c3⟩ := g
  have HN := hg.N
  have HCT := Lib.hid (fun W => count_any W N a1 a2 a3 ks.length zs.length ps.length c1 c2 c3 HN)
  dsimp only at hn0 h0
  rw [hn0] at HCT
  have HAW := Lib.hid awake_any
  have HG := Lib.hid hg
  have HN1 := Lib.hid hn1
  have HN2 := Lib.hid hn2
  have HKL : Hid (ks.length ≤ 60) := Lib.hid (by omega)
  have HZL : Hid (zs.length ≤ 10) := Lib.hid (by omega)
  have HPL : Hid (ps.length ≤ 10) := Lib.hid (by omega)
  have nz : ((n : Int) == 0) = false := beq_false_of_ne (by omega)
  clear h0 hg HN hn0 hn1 hn2
  show Calls Try.prog 3 #[.agg #[.int .u8 (N : Int), .slice a1 ks.length c1, .slice a2 zs.length c2, .slice a3 ps.length c3], .int .i64 b, .int .i64 s] w _
  have hcc := Chg.alloc (fun _ => False) w (.cells #[.int .u8 (N : Int), .slice a1 ks.length c1, .slice a2 zs.length c2, .slice a3 ps.length c3] 26)
  have hb := alloc_block w (.cells #[.int .u8 (N : Int), .slice a1 ks.length c1, .slice a2 zs.length c2, .slice a3 ps.length c3] 26)
  have HGR := Lib.hid (fun W (hc : Chg (fun _ => False) w W) => graph_any W n b s (.slice a1 ks.length c1) ks HN1.out (by have := HN2.out; omega) (HG.out.ks.keep hc) HG.out.k1 HKL.out)
  go_enter Try.func3, Try.ntmps3
  go_upto_region 4 with (first
    | (go_at_call 6; refine (HCT.out _).mono ?_; rintro e w1 ⟨rfl, hc1⟩; have hcc := hcc.trans' hc1; have hb := hc1.keep hb (fun x => x); clear hc1)
    | (go_at_call 7; refine (HAW.out _).mono ?_; rintro e w2 ⟨rfl, hc2⟩; have hcc := hcc.trans' hc2; have hb := hc2.keep hb (fun x => x); clear hc2))
  have d1 := cell_of_block (i := 1) hb rfl
  simp only [List.getElem_toArray, List.getElem_cons_zero, List.getElem_cons_succ] at d1
  go_upto_region 5 with (go_at_call 8; refine (HGR.out _ hcc).mono ?_; rintro e w3 ⟨bh, hp, vl, vx, xs, Fh, Fx, rfl, hgs, hgi, hol⟩)
  -- further references
  have hc3 := hcc.trans' hgs.heap.chg
  have hb3 := hgs.heap.chg.keep hb (fun x => x)
  have HL : Hid ((hsI b s n).length = n) := Lib.hid (hsI_len b s n)
  obtain ⟨al, kl, rfl, -, -⟩ := hol.val
  rw [HL.out] at hol hgs ⊢
  have HOL := Lib.hid hol
  have HGS := Lib.hid hgs
  have HGI := Lib.hid hgi
  have HB3 := Lib.hid hb3
  have HC3 := Lib.hid hc3
  have d0 := cell_of_block (i := 0) hb3 rfl
  have d1 := cell_of_block (i := 1) hb3 rfl
  have d2 := cell_of_block (i := 2) hb3 rfl
  have d3 := cell_of_block (i := 3) hb3 rfl
  simp only [List.getElem_toArray, List.getElem_cons_zero, List.getElem_cons_succ] at d0 d1 d2 d3
  have HED := Lib.hid (edges_any w3 N a1 a2 a3 al ks.length c1 zs.length c2 c3 n kl ps HN1.out (by have := HN2.out; omega) (HG.out.ps.keep hc3) HG.out.p1 HPL.out)
  clear hb hcc hc3 hb3 hol hgs hgi HGR HCT HAW
  go_upto_region 6 with (go_at_call 9; refine HED.out.mono ?_; rintro e w4 ⟨bl, bm, vm, Fm, rfl, hrow, hcl, hcm, hc4⟩)
  generalize hmo : moreM n ps = more at *
  have HMO : Hid (MoreOk n 10 more) := Lib.hid (by have h := moreM_ok HN1.out ps; rw [hmo] at h; exact ⟨h.len, h.lt, fun l hl => Nat.le_trans (h.few l hl) HPL.out⟩)
  have HB4 := Lib.hid (hc4.keep HB3.out (fun x => x))
  have d2 := cell_of_block (i := 2) HB4.out rfl
  simp only [List.getElem_toArray, List.getElem_cons_zero, List.getElem_cons_succ] at d2
  have HC4 := Lib.hid (HC3.out.trans' hc4)
  have HL4 : Hid (RowAt w4 3 1 (.slice al n kl) (hsI b s n).length (intC (hsI b s n))) := Lib.hid (by have h := HOL.out.row.chg hc4 (fun _ _ x => x); rwa [HL.out] at h ⊢)
  have HGS4 := Lib.hid (HGS.out.still hc4)
  have HRW := Lib.hid hrow
  have HCL := Lib.hid hcl
  have HCM := Lib.hid hcm
  have HHD := Lib.hid (handles_any w4 (.slice al n kl) (.slice a2 zs.length c2) (hsI b s n) zs (by have h := HL4.out; exact h) (HG.out.zs.keep HC4.out) HG.out.z1 (by rw [HL.out]; exact HN1.out) (by rw [HL.out]; have := HN2.out; omega) (by have := HZL.out; omega))
  clear d0 d1 d3 hrow hcl hcm hc4 hmo HED HOL HGS HB3 HC3
  have HXS := HGI.out.live (em := emM (hsI b s n) more) (more := more) (fun j hj => HGI.out.em HMO.out hj) (fun j y hy => by
    by_cases hj : j < more.length
    · rw [getD_get hj] at hy; exact HMO.out.lt _ (List.getElem_mem hj) y hy
    · rw [List.getD_eq_getElem?_getD, List.getElem?_eq_none (by omega)] at hy; cases hy) HL.out zs
  generalize hX : liveR (gR xs more) (psR xs) n (n + 1) (addAll [] (zs.map (· % n))) 0 = X at *
  have HLV := Lib.hid (fun (W : World) (vr : Value) (hc : Chg (fun _ => False) w4 W) (hr : RowAt W 3 1 vr (handlesM (hsI b s n) zs).length (intC (handlesM (hsI b s n) zs))) =>
    live_any W bh hp Fh vr (.func (.func 27) #[] #[.pointer (some ⟨bl, 0, none⟩), .pointer (some ⟨bm, 0, none⟩)]) (handlesM (hsI b s n) zs) (emM (hsI b s n) more) (HGS4.out.heap.here.still hc) (HGI.out.hpOk (by omega)) hr
      (by unfold handlesM; rw [List.length_map]; have := HZL.out; omega) (fun r hr => by unfold handlesM at hr; obtain ⟨z, -, rfl⟩ := List.mem_map.1 hr; exact HGI.out.inI _)
      (.inr ⟨bl, bm, rfl, fun W2 h hc2 _ => ⟨HGI.out.emIn h, by unfold emM; have := emP_len (L := hsI b s n) (more := more) h (fun l hl => Nat.le_trans (HMO.out.few l hl) (by omega)) (hsI b s n).length; rw [HL.out] at this ⊢; have := HN2.out; omega,
        edges1_any W2 h (hsI b s n) more Fm (.slice al n kl) vm bl bm ((hc.trans' hc2).cell HCL.out) ((hc.trans' hc2).cell HCM.out) (HL4.out.chg (hc.trans' hc2) (fun _ _ x => x)) (HRW.out.still (hc.trans' hc2)) (by rw [HMO.out.len, HL.out]) (by rw [HL.out]; exact HMO.out.lt) (by rw [HL.out]; have := HN2.out; omega) (fun l hl => Nat.le_trans (HMO.out.few l hl) (by omega))⟩⟩))
  rw [HXS.1] at HLV
  have HXG := Lib.hid HXS.2
  have HX := Lib.hid hX
  clear HXS hX
  go_upto_region 7 with (first
    | (go_at_call 11; refine HHD.out.mono ?_; rintro e w5 ⟨v5, rfl, HO5⟩)
    | (go_at_call 10; refine (HLV.out w5 v5 HO5.chg HO5.row).mono ?_; rintro e w6 ⟨v6, rfl, HO6⟩))
  have hc46 := HO5.chg.trans' HO6.chg
  have hnm : numbersM n zs = natI (zs.map (· % n)) := by unfold numbersM natI; rw [List.map_map]; rfl
  have HNM0 := numbers_any w6 n (.slice a2 zs.length c2) zs (HG.out.zs.keep (HC4.out.trans' hc46)) HG.out.z1 HN1.out (by have := HN2.out; omega) (by have := HZL.out; omega)
  rw [hnm] at HNM0
  have HNM := Lib.hid HNM0
  have d2 := cell_of_block (i := 2) (hc46.keep HB4.out (fun x => x)) rfl
  simp only [List.getElem_toArray, List.getElem_cons_zero, List.getElem_cons_succ] at d2
  have HRL := Lib.hid (fun (W : World) (vr : Value) (hc : Chg (fun _ => False) w4 W) (hr : RowAt W 3 1 vr (zs.map (· % n)).length (intC (natI (zs.map (· % n))))) =>
    rlive_any W n vx vr vm xs more Fx Fm (zs.map (· % n)) (HGS4.out.x.still hc) (HRW.out.still hc) hr (HGI.out.xOk (by omega) HMO.out.lt (fun l hl => Nat.le_trans (HMO.out.few l hl) (by omega)) (by rw [HMO.out.len]; have := HN2.out; omega))
      (fun r hr => by obtain ⟨z, -, rfl⟩ := List.mem_map.1 hr; exact Nat.mod_lt _ HN1.out) (by rw [List.length_map]; have := HZL.out; omega))
  rw [HX.out] at HRL
  have HC46 := Lib.hid hc46
  have H6 := Lib.hid HO6
  clear HNM0 hnm hc46 HO6 HO5 HLV HHD
  go_upto_region 8 with (first
    | (go_at_call 13; refine HNM.out.mono ?_; rintro e w7 ⟨v7, rfl, HO7⟩)
    | (go_at_call 12; refine (HRL.out w7 v7 (HC46.out.trans' HO7.chg) (by have h := HO7.row; rwa [natI_len] at h)).mono ?_; rintro e w8 ⟨v8, rfl, HO8⟩))
  -- both lists
  have hc68 := HO7.chg.trans' HO8.chg
  have h6 := H6.out.still hc68
  obtain ⟨a6, c6, rfl, -, -⟩ := h6.val
  obtain ⟨a8, c8, rfl, -, -⟩ := HO8.val
  rw [List.length_map] at h6 ⊢
  rw [natI_len] at HO8 ⊢
  have hl8 := HL4.out.chg (HC46.out.trans' hc68) (fun _ _ x => x)
  rw [HL.out] at hl8
  have HCE := Lib.hid ((HC4.out.trans' HC46.out).trans' hc68)
  have H6' := Lib.hid h6
  have H8' := Lib.hid HO8
  have HL8 := Lib.hid hl8
  have xl : (X.length : Int) ≤ 16 := by have := good_len n X HXG.out; have := HN2.out; omega
  have ln : (hsI b s n).length = n := HL.out
  clear hc68 h6 HO8 hl8 HO7 H6 HRL HNM d2 HC46
  go_wp2_with fail
  go_loopw [15] (fun u15 wr => ∃ (i : Nat), i ≤ X.length ∧ u15 = .int .i64 i ∧ Hid (Chg (fun _ => False) w8 wr)) (fun u15 _ => X.length - (intOf u15).toNat)
  case atStart => exact ⟨0, by omega, rfl, Lib.hid (Chg.refl _ _)⟩
  case round =>
    obtain ⟨i, hi, rfl, HCR⟩ := hrel
    by_cases hlt : i < X.length
    · have i0 : (0 : Int) ≤ (i : Int) := by omega
      have i1 : (i : Int) < (X.length : Int) := by omega
      have w64 : IntKind.i64.wrap ((i : Int) + 1) = ((i + 1 : Nat) : Int) := IntWalk.i64_in _ (by omega)
      obtain ⟨g6, o6, k6, hv, p6⟩ := H6'.out.at (k := i) (by rw [List.length_map]; exact hlt)
      rw [List.length_map] at hv
      cases hv
      obtain ⟨g8, o8, k8, hv, p8⟩ := H8'.out.at (k := i) (by rw [natI_len]; exact hlt)
      rw [natI_len] at hv
      cases hv
      have hxn := HXG.out.lt _ (List.getElem_mem hlt)
      rw [List.getElem_map] at p6
      have e8 : (natI X)[i]'(by rw [natI_len]; exact hlt) = ((X[i] : Nat) : Int) := by unfold natI; rw [List.getElem_map]
      rw [e8] at p8
      obtain ⟨gl, ol, kl', hv, -, -⟩ := HL8.out.addr HN1.out
      cases hv
      have pl := HL8.out.cellAt X[i] (.int .i64 (hOf b s X[i])) (by unfold intC hsI; rw [List.getElem?_map, List.getElem?_map, List.getElem?_range hxn]; rfl)
      clear e8 hi
      generalize X[i] = x at *
      have HLT := Lib.hid hlt
      have HNX := Lib.hid (show i + 1 ≤ X.length from hlt)
      have x0 : (0 : Int) ≤ (x : Int) := by omega
      have x1 : (x : Int) < (n : Int) := by omega
      generalize hOf b s x = hx at *
      have zx : (hx != hx) = false := bne_self_eq_false ..
      have r6 := HCR.out.cell p6
      have r8 := HCR.out.cell p8
      have rl := HCR.out.cell pl
      clear p6 p8 pl hlt hxn
      go_wp2_with fail
      go_quiet (fail)
      all_goals (
        go_wp2_with fail
        go_roundw
        case rel => exact ⟨i + 1, HNX.out, rfl, Lib.hid (HCR.out.trans' (Chg.drewN _ _ _))⟩
        case measure => have := HLT.out; simp [intOf, w64]; omega)
    · have hi2 : i = X.length := by omega
      subst hi2
      clear hlt hi
      go_wp2_with fail
      go_ret
      exact ⟨rfl, (HCE.out.trans' HCR.out).below (Nat.le_refl _) (fun _ h => h.elim)⟩
theorem collectLives_walk (g : GA) (b s : Int) (w : World) (hg : GAOk w g) :
    Calls Try.prog 3 #[g.val, .int .i64 b, .int .i64 s] w fun e w' => e = .returned (.bool true) ∧ Below w.heap.size w w' := by
  by_cases h : 60 < g.ks.length ∨ 10 < g.zs.length ∨ 10 < g.ps.length
  · exact collectLives_none g b s w hg (by unfold countM; rw [if_pos h])
  · exact collectLives_some g b s w hg h
end Go.Proofs.Ythiiehanlconeaa
