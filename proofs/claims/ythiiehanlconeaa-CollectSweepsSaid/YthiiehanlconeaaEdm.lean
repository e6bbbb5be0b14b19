/-
  The law's further references as a function: edges$1 (its captured list of handles and its lists of numbers lie in boxes).
  The law's count.
  The law's further references: edges (the lists of numbers in memory).
  The walk of the law's edges.
  The law's argument as the walk meets it: knapsacklaw35.Graph.
-/
import Derived.Test.YthiiehanlconeaaRlw
import Derived.Test.YthiiehanlconeaaHeldT
import Derived.Test.YthiiehanlconeaaMake
import Derived.Test.YthiiehanlconeaaOpenc
import Derived.Test.YthiiehanlconeaaJoi
import Derived.Test.YthiiehanlconeaaGrh
namespace Go.Proofs.Ythiiehanlconeaa
open Go.RowKit
set_option linter.unusedVariables false
set_option linter.unusedSimpArgs false

def emF (L : List Int) (more : List (List Nat)) (h : Int) (i : Nat) : List Int := if L.getD i 0 = h then (more.getD i []).map fun y => L.getD y 0 else []
def emP (L : List Int) (more : List (List Nat)) (h : Int) (k : Nat) : List Int := (List.range k).flatMap (emF L more h)
def emM (L : List Int) (more : List (List Nat)) (h : Int) : List Int := emP L more h L.length
theorem emP_succ (L : List Int) (more : List (List Nat)) (h : Int) (k : Nat) : emP L more h (k + 1) = emP L more h k ++ emF L more h k := by
  unfold emP
  rw [List.range_succ, List.flatMap_append]
  simp
theorem emP_len {L : List Int} {more : List (List Nat)} (h : Int) (hm : ∀ l ∈ more, l.length ≤ 100) : ∀ k, (emP L more h k).length ≤ k * 100
  | 0 => Nat.le_refl _
  | k + 1 => by
    have ih := emP_len (L := L) (more := more) h hm k
    have h1 : (emF L more h k).length ≤ 100 := by
      unfold emF
      split
      · rw [List.length_map]
        by_cases hk : k < more.length
        · rw [getD_get hk]; exact hm _ (List.getElem_mem hk)
        · rw [List.getD_eq_getElem?_getD, List.getElem?_eq_none (by omega)]; simp
      · simp
    rw [emP_succ, List.length_append]
    omega
set_option maxHeartbeats 3200000 in
set_option maxRecDepth 100000 in
theorem edges1_any (w : World) (h : Int) (L : List Int) (more : List (List Nat)) (Fm : List Nat) (vl vm : Value) (bl bm : Nat) (cl : w.cell? ⟨bl, 0, none⟩ = some vl) (cm : w.cell? ⟨bm, 0, none⟩ = some vm) (hL : RowAt w 3 1 vl L.length (intC L))
    (hm : Row (natR.row 3) 30 w vm more Fm) (hml : more.length = L.length) (hlt : ∀ l ∈ more, ∀ y ∈ l, y < L.length) (hn : L.length ≤ 1000) (hmn : ∀ l ∈ more, l.length ≤ 100) :
    Calls Try.prog 27 #[.int .i64 h, .pointer (some ⟨bl, 0, none⟩), .pointer (some ⟨bm, 0, none⟩)] w fun e w' => ∃ v', e = .returned v' ∧ OutI w w' v' (emM L more h) := by
  obtain ⟨al, kl, rfl, -⟩ := hL.slice
  have HCL := Lib.hid cl
  have HCM := Lib.hid cm
  have HL := Lib.hid hL
  have HM := Lib.hid hm
  have HML := Lib.hid hml
  have HLT := Lib.hid hlt
  have HN := Lib.hid hn
  have HMN := Lib.hid hmn
  have nn : (L.length : Int) ≤ 1000 := by omega
  clear cl cm hL hm hml hlt hn hmn
  go_enter Try.func27, Try.ntmps27
  go_wp2_with fail
  go_loopw [5, 6, 7] (fun u5 u6 _ wr => ∃ (k : Nat) (a : Option Addr) (n c : Nat), k ≤ L.length ∧ u6 = .int .i64 k ∧ u5 = .slice a n c ∧ Hid (OutI w wr (.slice a n c) (emP L more h k))) (fun _ u6 _ _ => L.length - (intOf u6).toNat)
  case atStart => exact ⟨0, none, 0, 0, by omega, rfl, rfl, Lib.hid (OutI.nil w)⟩
  case round =>
    obtain ⟨k, a, n, c, hk, rfl, rfl, HO⟩ := hrel
    have c1 := HO.out.chg.cell HCL.out
    by_cases hlt : k < L.length
    · have h0 : (0 : Int) ≤ (k : Int) := by omega
      have h1 : (k : Int) < (L.length : Int) := by omega
      have w64 : IntKind.i64.wrap ((k : Int) + 1) = ((k + 1 : Nat) : Int) := IntWalk.i64_in _ (by omega)
      obtain ⟨gl, ol, kl', hv, -, -⟩ := HL.out.addr (by omega)
      cases hv
      have cL := HO.out.chg.cell (HL.out.cellAt k (.int .i64 (L.getD k 0)) (by rw [List.getD_eq_getElem?_getD, List.getElem?_eq_getElem hlt]; simp [intC, hlt]))
      have hkm : k < more.length := by rw [HML.out]; exact hlt
      obtain ⟨gm, om, km, hv, v4, cm4, rm4⟩ := mrOpen HM.out hkm
      obtain ⟨a4, k4, rfl, -⟩ := rm4.slice
      have HLTT := Lib.hid hlt
      have HNX := Lib.hid (show k + 1 ≤ L.length from hlt)
      have HMB := Lib.hid (HLT.out _ (List.getElem_mem hkm))
      have HML4 := Lib.hid (HMN.out _ (List.getElem_mem hkm))
      have HCM4 := Lib.hid cm4
      have HRM4 := Lib.hid rm4
      by_cases he : L.getD k 0 = h
      · have HT : Hid (emP L more h (k + 1) = emP L more h k ++ more[k].map fun y => L.getD y 0) := Lib.hid (by rw [emP_succ]; unfold emF; rw [if_pos he, getD_get hkm])
        have HCMV : Hid (w.cell? ⟨bm, 0, none⟩ = some (.slice (some ⟨gm, om, none⟩) more.length km)) := Lib.hid (by rw [← hv]; exact HCM.out)
        have z : (L.getD k 0 == h) = true := beq_iff_eq.2 he
        have hmm : (k : Int) < (more.length : Int) := by omega
        have HE : Hid ((emP L more h k).length ≤ 100000) := Lib.hid (by have := emP_len (L := L) (more := more) h HMN.out k; have := HN.out; have := hlt; omega)
        clear hv cm4 rm4 hk he
        generalize more[k] = ml at *
        clear hkm
        generalize emP L more h k = E0 at *
        generalize hE1 : emP L more h (k + 1) = E1 at *
        have HE1 := Lib.hid hE1
        clear hE1
        generalize L.getD k 0 = y0 at *
        clear hlt
        go_wp2_with fail
        go_loopw [5, 7] (fun u5 u7 wx => ∃ (q : Nat) (a : Option Addr) (n c : Nat), q ≤ ml.length ∧ u7 = .int .i64 q ∧ u5 = .slice a n c ∧ Hid (OutI w wx (.slice a n c) (E0 ++ (ml.take q).map fun y => L.getD y 0))) (fun _ u7 _ => ml.length - (intOf u7).toNat)
        case atStart => exact ⟨0, a, n, c, by omega, rfl, rfl, Lib.hid (by simpa using HO.out)⟩
        case round =>
          clear HO c1 cL
          obtain ⟨q, a, n, c, hq, rfl, rfl, HO⟩ := hrel
          have d0 := HO.out.chg.cell HCMV.out
          have d1 := HO.out.chg.cell HCM4.out
          have q64 : (ml.length : Int) ≤ 100 := by have := HML4.out; omega
          by_cases hlq : q < ml.length
          · have q0 : (0 : Int) ≤ (q : Int) := by omega
            have q1 : (q : Int) < (ml.length : Int) := by omega
            have wq : IntKind.i64.wrap ((q : Int) + 1) = ((q + 1 : Nat) : Int) := IntWalk.i64_in _ (by omega)
            obtain ⟨g4, o4, k4', hv, -, -⟩ := HRM4.out.addr (by omega)
            cases hv
            have d2 := HO.out.chg.cell (HRM4.out.cellAt q (.int .i64 (ml[q] : Int)) (by unfold intC natI; rw [List.getElem?_map, List.getElem?_map, List.getElem?_eq_getElem hlq]; rfl))
            have hyb := HMB.out _ (List.getElem_mem hlq)
            have HT2 : Hid (E0 ++ (ml.take (q + 1)).map (fun y => L.getD y 0) = (E0 ++ (ml.take q).map fun y => L.getD y 0) ++ [L.getD ml[q] 0]) := Lib.hid (by rw [List.take_succ_eq_append_getElem hlq, List.map_append, List.append_assoc]; rfl)
            have HFW : Hid (Few ((E0 ++ (ml.take q).map fun y => L.getD y 0).length + 1)) := Lib.hid ⟨by rw [List.length_append, List.length_map, List.length_take]; have := HE.out; have := HML4.out; omega⟩
            have cLy := HO.out.chg.cell (HL.out.cellAt ml[q] (.int .i64 (L.getD ml[q] 0)) (by rw [List.getD_eq_getElem?_getD, List.getElem?_eq_getElem hyb]; simp [intC, hyb]))
            have cl1 := HO.out.chg.cell HCL.out
            generalize ml[q] = y at *
            have HNQ := Lib.hid (show q + 1 ≤ ml.length from hlq)
            have HLQ := Lib.hid hlq
            have y0' : (0 : Int) ≤ (y : Int) := by omega
            have y1' : (y : Int) < (L.length : Int) := by omega
            generalize hE : E0 ++ (ml.take q).map (fun y => L.getD y 0) = E2 at *
            clear hE hq hlq hyb
            generalize L.getD y 0 = z1 at *
            go_wp2_with fail
            have HS0 : Hid (wr.cell? ⟨bl, 0, none⟩ = some (.slice (some ⟨gl, ol, none⟩) L.length kl) ∧ wr.cell? ⟨bm, 0, none⟩ = some (.slice (some ⟨gm, om, none⟩) more.length km) ∧ wr.cell? ⟨gm, om + k, none⟩ = some (.slice (some ⟨g4, o4, none⟩) ml.length k4) ∧ wr.cell? ⟨g4, o4 + q, none⟩ = some (.int .i64 (y : Int)) ∧ wr.cell? ⟨gl, ol + y, none⟩ = some (.int .i64 z1)) := Lib.hid ⟨cl1, d0, d1, d2, cLy⟩
            clear cl1 d0 d1 d2 cLy
            refine wp_region_held_split 12 (fun w' => w'.cell? ⟨bl, 0, none⟩ = some (.slice (some ⟨gl, ol, none⟩) L.length kl) ∧ w'.cell? ⟨bm, 0, none⟩ = some (.slice (some ⟨gm, om, none⟩) more.length km) ∧ w'.cell? ⟨gm, om + k, none⟩ = some (.slice (some ⟨g4, o4, none⟩) ml.length k4) ∧ w'.cell? ⟨g4, o4 + q, none⟩ = some (.int .i64 (y : Int)) ∧ w'.cell? ⟨gl, ol + y, none⟩ = some (.int .i64 z1)) (by kernel_rfl) (by kernel_rfl) ?_ (fun hHeld => ?_)
            · (first | exact HS0.out | exact HKS.out _ (Chg.refl _ _) | exact HKS.out _ (Chg.alloc _ _ _))
            simp only [List.take_succ_cons, List.take_zero]
            have HKS : Hid (∀ W, Chg (fun _ => False) wr.drew W → W.cell? ⟨bl, 0, none⟩ = some (.slice (some ⟨gl, ol, none⟩) L.length kl) ∧ W.cell? ⟨bm, 0, none⟩ = some (.slice (some ⟨gm, om, none⟩) more.length km) ∧ W.cell? ⟨gm, om + k, none⟩ = some (.slice (some ⟨g4, o4, none⟩) ml.length k4) ∧ W.cell? ⟨g4, o4 + q, none⟩ = some (.int .i64 (y : Int)) ∧ W.cell? ⟨gl, ol + y, none⟩ = some (.int .i64 z1)) := Lib.hid (fun W hc => ⟨hc.cell HS0.out.1, hc.cell HS0.out.2.1, hc.cell HS0.out.2.2.1, hc.cell HS0.out.2.2.2.1, hc.cell HS0.out.2.2.2.2⟩)
            have HO1 := Lib.hid (HO.out.drew.alloc (.cells #[.int .i64 z1] 3))
            generalize wr.drew = wD at *
            refine wpAnyH_take (i := 0) (v := ?_) rfl (by kernel_rfl) (by kernel_rfl) (by kernel_rfl) (fun _ _ _ h => h) (Or.inl ⟨by rfl, ?_⟩) (by assumption) ?_
            rotate_left
            · (intro wq hSw; (try dsimp only at hSw); go_simp; (try with_reducible rfl))
            simp only [Act.put, List.getElem_toArray, List.getElem_cons_zero, List.getElem_cons_succ, List.setIfInBounds_toArray, List.set_cons_zero, List.set_cons_succ]
            refine wpAnyH_take (i := 1) (v := ?_) rfl (by kernel_rfl) (by kernel_rfl) (by kernel_rfl) (fun _ _ _ h => h) (Or.inl ⟨by rfl, ?_⟩) (by assumption) ?_
            rotate_left
            · (intro wq hSw; (try dsimp only at hSw); go_simp; (try with_reducible rfl))
            simp only [Act.put, List.getElem_toArray, List.getElem_cons_zero, List.getElem_cons_succ, List.setIfInBounds_toArray, List.set_cons_zero, List.set_cons_succ]
            refine wpAnyH_take (i := 2) (v := ?_) rfl (by kernel_rfl) (by kernel_rfl) (by kernel_rfl) (fun _ _ _ h => h) (Or.inl ⟨by rfl, ?_⟩) (by assumption) ?_
            rotate_left
            · (intro wq hSw; (try dsimp only at hSw); go_simp; (try with_reducible rfl))
            simp only [Act.put, List.getElem_toArray, List.getElem_cons_zero, List.getElem_cons_succ, List.setIfInBounds_toArray, List.set_cons_zero, List.set_cons_succ]
            refine wpAnyH_take (i := 3) (v := ?_) rfl (by kernel_rfl) (by kernel_rfl) (by kernel_rfl) (fun _ _ _ h => h) (Or.inl ⟨by rfl, ?_⟩) (by assumption) ?_
            rotate_left
            · (intro wq hSw; (try dsimp only at hSw); go_simp; (try with_reducible rfl))
            simp only [Act.put, List.getElem_toArray, List.getElem_cons_zero, List.getElem_cons_succ, List.setIfInBounds_toArray, List.set_cons_zero, List.set_cons_succ]
            refine wpAnyH_take (i := 4) (v := ?_) rfl (by kernel_rfl) (by kernel_rfl) (by kernel_rfl) (fun _ _ _ h => h) (Or.inl ⟨by rfl, ?_⟩) (by assumption) ?_
            rotate_left
            · (intro wq hSw; (try dsimp only at hSw); go_simp; (try with_reducible rfl))
            simp only [Act.put, List.getElem_toArray, List.getElem_cons_zero, List.getElem_cons_succ, List.setIfInBounds_toArray, List.set_cons_zero, List.set_cons_succ]
            refine wpAnyH_take (i := 5) (v := ?_) rfl (by kernel_rfl) (by kernel_rfl) (by kernel_rfl) (fun _ _ _ h => h) (Or.inl ⟨by rfl, ?_⟩) (by assumption) ?_
            rotate_left
            · (intro wq hSw; (try dsimp only at hSw); go_simp; (try with_reducible rfl))
            simp only [Act.put, List.getElem_toArray, List.getElem_cons_zero, List.getElem_cons_succ, List.setIfInBounds_toArray, List.set_cons_zero, List.set_cons_succ]
            refine wpAnyH_take (i := 6) (v := ?_) rfl (by kernel_rfl) (by kernel_rfl) (by kernel_rfl) (fun _ _ _ h => h) (Or.inl ⟨by rfl, ?_⟩) (by assumption) ?_
            rotate_left
            · (intro wq hSw; (try dsimp only at hSw); go_simp; (try with_reducible rfl))
            simp only [Act.put, List.getElem_toArray, List.getElem_cons_zero, List.getElem_cons_succ, List.setIfInBounds_toArray, List.set_cons_zero, List.set_cons_succ]
            refine wpAnyH_take (i := 7) (v := ?_) rfl (by kernel_rfl) (by kernel_rfl) (by kernel_rfl) (fun _ _ _ h => h) (Or.inl ⟨by rfl, ?_⟩) (by assumption) ?_
            rotate_left
            · (intro wq hSw; (try dsimp only at hSw); go_simp; (try with_reducible rfl))
            simp only [Act.put, List.getElem_toArray, List.getElem_cons_zero, List.getElem_cons_succ, List.setIfInBounds_toArray, List.set_cons_zero, List.set_cons_succ]
            refine wpAnyH_take (i := 8) (v := ?_) rfl (by kernel_rfl) (by kernel_rfl) (by kernel_rfl) (fun _ _ _ h => h) (Or.inl ⟨by rfl, ?_⟩) (by assumption) ?_
            rotate_left
            · (intro wq hSw; (try dsimp only at hSw); go_simp; (try with_reducible rfl))
            simp only [Act.put, List.getElem_toArray, List.getElem_cons_zero, List.getElem_cons_succ, List.setIfInBounds_toArray, List.set_cons_zero, List.set_cons_succ]
            refine wpAnyH_take (i := 9) (v := ?_) rfl (by kernel_rfl) (by kernel_rfl) (by kernel_rfl) (fun _ _ _ h => h) (Or.inl ⟨by rfl, ?_⟩) (by assumption) ?_
            rotate_left
            · (intro wq hSw; (try dsimp only at hSw); go_simp; (try with_reducible rfl))
            simp only [Act.put, List.getElem_toArray, List.getElem_cons_zero, List.getElem_cons_succ, List.setIfInBounds_toArray, List.set_cons_zero, List.set_cons_succ]
            refine wpAnyH_take (i := 10) (v := ?_) rfl (by kernel_rfl) (by kernel_rfl) (by kernel_rfl) (fun _ _ _ h => h) (Or.inl ⟨by rfl, ?_⟩) (by assumption) ?_
            rotate_left
            · (intro wq hSw; (try dsimp only at hSw); go_simp; (try with_reducible rfl))
            simp only [Act.put, List.getElem_toArray, List.getElem_cons_zero, List.getElem_cons_succ, List.setIfInBounds_toArray, List.set_cons_zero, List.set_cons_succ]
            refine wpAnyH_ready (rs := [11]) (by kernel_rfl) (by simp) ?_
            refine AllReadyH.cons (by simp only [List.getElem?_toArray, List.getElem?_cons_succ, List.getElem?_cons_zero]; rfl) (fun K hK => ?_) AllReadyH.nil
            go_simp
            refine hK.out _ _ ?_ (fun hHeld => ?_)
            · (first | exact HS0.out | exact HKS.out _ (Chg.refl _ _) | exact HKS.out _ (Chg.alloc _ _ _))
            clear hK K
            (try simp only [Act.put, List.getElem_toArray, List.getElem_cons_zero, List.getElem_cons_succ, List.setIfInBounds_toArray, List.set_cons_zero, List.set_cons_succ])
            refine wpAnyH_done (by kernel_rfl) ?_ _
            change wpList _ _ _ _ _ _
            simp only [List.drop_succ_cons, List.drop_zero]
            go_wp2_with (at_builtin; refine wpList_out rfl (.tmp 29) (.tmp 40) rfl _ E2 rfl HO1.out _ [z1] rfl (RowAt.lit [.int .i64 z1] rfl (by simp [maxLen])) HFW.out ?_; intro a2 n2 c2 w2 HO2 hch2 _)
            go_roundw
            case rel => exact ⟨q + 1, a2, n2, c2, HNQ.out, rfl, rfl, Lib.hid (by rw [HT2.out]; exact HO2)⟩
            case measure => have := HLQ.out; simp [intOf, wq]; omega
          · have hq2 : q = ml.length := by omega
            subst hq2
            rw [List.take_length, ← HT.out] at HO
            clear hlq hq
            go_wp2_with fail
            go_roundw
            case rel => exact ⟨k + 1, a, n, c, HNX.out, rfl, rfl, by rw [HE1.out]; exact HO⟩
            case measure => have := HLTT.out; simp [intOf, w64]; omega
      · have HT : Hid (emP L more h (k + 1) = emP L more h k) := Lib.hid (by rw [emP_succ]; unfold emF; rw [if_neg he, List.append_nil])
        have z : (L.getD k 0 == h) = false := beq_false_of_ne he
        clear hv cm4 rm4 hk he HMB HML4 HCM4 HRM4
        clear hkm
        generalize L.getD k 0 = y0 at *
        clear hlt
        go_wp2_with fail
        go_roundw
        case rel => exact ⟨k + 1, a, n, c, HNX.out, rfl, rfl, by rw [HT.out]; exact HO⟩
        case measure => have := HLTT.out; simp [intOf, w64]; omega
    · have hk2 : k = L.length := by omega
      subst hk2
      clear hlt hk
      go_wp2_with fail
      go_ret
      exact ⟨_, rfl, HO.out⟩
end Go.Proofs.Ythiiehanlconeaa
namespace Go.Proofs.Ythiiehanlconeaa
open Go.RowKit
set_option linter.unusedVariables false
set_option linter.unusedSimpArgs false

def countM (N l1 l2 l3 : Nat) : Nat := if 60 < l1 ∨ 10 < l2 ∨ 10 < l3 then 0 else 1 + N % 16
set_option maxHeartbeats 3200000 in
set_option maxRecDepth 100000 in
theorem count_any (w : World) (N : Nat) (a1 a2 a3 : Option Addr) (l1 l2 l3 c1 c2 c3 : Nat) (hN : N < 256) :
    Calls Try.prog 6 #[.agg #[.int .u8 (N : Int), .slice a1 l1 c1, .slice a2 l2 c2, .slice a3 l3 c3]] w fun e w' => e = .returned (.int .i64 ((countM N l1 l2 l3 : Nat) : Int)) ∧ Chg (fun _ => False) w w' := by
  have hb := alloc_block w (.cells #[.int .u8 (N : Int), .slice a1 l1 c1, .slice a2 l2 c2, .slice a3 l3 c3] 26)
  have d0 := cell_of_block (i := 0) hb rfl
  have d1 := cell_of_block (i := 1) hb rfl
  have d2 := cell_of_block (i := 2) hb rfl
  have d3 := cell_of_block (i := 3) hb rfl
  simp only [List.getElem_toArray, List.getElem_cons_zero, List.getElem_cons_succ] at d0 d1 d2 d3
  have HC := Lib.hid (Chg.alloc (fun _ => False) w (.cells #[.int .u8 (N : Int), .slice a1 l1 c1, .slice a2 l2 c2, .slice a3 l3 c3] 26))
  clear hb
  by_cases h1 : 60 < l1
  · have z1 : decide ((60 : Int) < (l1 : Int)) = true := decide_eq_true (by omega)
    have e : countM N l1 l2 l3 = 0 := by unfold countM; rw [if_pos (by omega)]
    rw [e]
    clear h1 e
    go_enter Try.func6, Try.ntmps6
    go_wp2_with fail
    go_ret
    exact ⟨rfl, HC.out⟩
  · have z1 : decide ((60 : Int) < (l1 : Int)) = false := decide_eq_false (by omega)
    by_cases h2 : 10 < l2
    · have z2 : decide ((10 : Int) < (l2 : Int)) = true := decide_eq_true (by omega)
      have e : countM N l1 l2 l3 = 0 := by unfold countM; rw [if_pos (by omega)]
      rw [e]
      clear h1 h2 e
      go_enter Try.func6, Try.ntmps6
      go_wp2_with fail
      go_ret
      exact ⟨rfl, HC.out⟩
    · have z2 : decide ((10 : Int) < (l2 : Int)) = false := decide_eq_false (by omega)
      by_cases h3 : 10 < l3
      · have z3 : decide ((10 : Int) < (l3 : Int)) = true := decide_eq_true (by omega)
        have e : countM N l1 l2 l3 = 0 := by unfold countM; rw [if_pos (by omega)]
        rw [e]
        clear h1 h2 h3 e
        go_enter Try.func6, Try.ntmps6
        go_wp2_with fail
        go_ret
        exact ⟨rfl, HC.out⟩
      · have z3 : decide ((10 : Int) < (l3 : Int)) = false := decide_eq_false (by omega)
        have e : ((countM N l1 l2 l3 : Nat) : Int) = 1 + (N : Int) % 16 := by unfold countM; rw [if_neg (by omega)]; omega
        have n0 : (0 : Int) ≤ (N : Int) := by omega
        have n1 : (N : Int) ≤ 255 := by omega
        have w1 : IntKind.i64.wrap ((N : Int) % 16) = (N : Int) % 16 := IntWalk.i64_in _ (by omega)
        have w2 : IntKind.i64.wrap (1 + (N : Int) % 16) = 1 + (N : Int) % 16 := IntWalk.i64_in _ (by omega)
        rw [e]
        clear h1 h2 h3 e hN
        go_enter Try.func6, Try.ntmps6
        go_wp2_with fail
        go_ret
        exact ⟨rfl, HC.out⟩
end Go.Proofs.Ythiiehanlconeaa
namespace Go.Proofs.Ythiiehanlconeaa
open Go.RowKit
set_option linter.unusedVariables false
set_option linter.unusedSimpArgs false

def moreS (n : Nat) (m : List (List Nat)) (p : Nat × Nat) : List (List Nat) := m.set (p.1 % n) (m.getD (p.1 % n) [] ++ [p.2 % n])
def moreM (n : Nat) (ps : List (Nat × Nat)) : List (List Nat) := ps.foldl (moreS n) (List.replicate n [])
theorem moreM_snoc (n : Nat) (ps : List (Nat × Nat)) (p : Nat × Nat) : moreM n (ps ++ [p]) = moreS n (moreM n ps) p := by unfold moreM; rw [List.foldl_append]; rfl
structure MoreOk (n k : Nat) (m : List (List Nat)) : Prop where
  len : m.length = n
  lt : ∀ l ∈ m, ∀ y ∈ l, y < n
  few : ∀ l ∈ m, l.length ≤ k
theorem MoreOk.step {n k : Nat} {m : List (List Nat)} (h : MoreOk n k m) (h0 : 0 < n) (p : Nat × Nat) : MoreOk n (k + 1) (moreS n m p) := by
  have ha : p.1 % n < m.length := by rw [h.len]; exact Nat.mod_lt _ h0
  refine ⟨by unfold moreS; rw [List.length_set]; exact h.len, fun l hl y hy => ?_, fun l hl => ?_⟩ <;> unfold moreS at hl <;> rw [getD_get ha] at hl <;> rcases List.mem_or_eq_of_mem_set hl with q | rfl
  · exact h.lt l q y hy
  · rcases List.mem_append.1 hy with q | q
    · exact h.lt _ (List.getElem_mem ha) y q
    · rw [List.mem_singleton.1 q]; exact Nat.mod_lt _ h0
  · have := h.few l q; omega
  · have := h.few _ (List.getElem_mem ha); rw [List.length_append]; simp; omega
theorem MoreOk.init (n : Nat) : MoreOk n 0 (List.replicate n []) := ⟨by simp, (fun l hl y hy => by rw [List.eq_of_mem_replicate hl] at hy; cases hy), (fun l hl => by rw [List.eq_of_mem_replicate hl]; exact Nat.le_refl _)⟩
theorem moreM_ok {n : Nat} (h0 : 0 < n) (ps : List (Nat × Nat)) : MoreOk n ps.length (moreM n ps) := by
  have : ∀ (l : List (Nat × Nat)) (k : Nat) (m : List (List Nat)), MoreOk n k m → MoreOk n (k + l.length) (l.foldl (moreS n) m) := by
    intro l
    induction l with
    | nil => intro k m h; exact h
    | cons p l ih =>
      intro k m h
      have := ih (k + 1) _ (h.step h0 p)
      rw [List.foldl_cons, List.length_cons]
      rwa [show k + (l.length + 1) = k + 1 + l.length from by omega]
  have := this ps 0 _ (MoreOk.init n)
  rwa [Nat.zero_add] at this

/-- The lists of numbers in memory, beside the three boxes. -/
structure ES (w0 W : World) (bg bl bm : Nat) (gc : List Value) (vl vm : Value) (more : List (List Nat)) (Fm : List Nat) : Prop where
  row : Row (natR.row 3) 30 W vm more Fm
  chg : Chg (fun _ => False) w0 W
  lo : ∀ k ∈ Fm, w0.heap.size ≤ k
  bs : (bg < W.heap.size ∧ bg ∉ Fm) ∧ (bl < W.heap.size ∧ bl ∉ Fm) ∧ (bm < W.heap.size ∧ bm ∉ Fm)
  g : W.heap[bg]? = some (.cells gc.toArray 26 (0, 0))
  l : W.heap[bl]? = some (.cells #[vl] 30 (0, 0))
  m : W.heap[bm]? = some (.cells #[vm] 37 (0, 0))
section
variable {w0 W W' : World} {bg bl bm : Nat} {gc : List Value} {vl vm : Value} {more : List (List Nat)} {Fm : List Nat}
theorem ES.still (h : ES w0 W bg bl bm gc vl vm more Fm) (hc : Chg (fun _ => False) W W') : ES w0 W' bg bl bm gc vl vm more Fm :=
  ⟨h.row.still hc, h.chg.trans' hc, h.lo, ⟨⟨Nat.lt_of_lt_of_le h.bs.1.1 hc.size, h.bs.1.2⟩, ⟨Nat.lt_of_lt_of_le h.bs.2.1.1 hc.size, h.bs.2.1.2⟩, ⟨Nat.lt_of_lt_of_le h.bs.2.2.1 hc.size, h.bs.2.2.2⟩⟩,
    hc.keep h.g (fun x => x), hc.keep h.l (fun x => x), hc.keep h.m (fun x => x)⟩
/-- One of the lists, about to be lengthened by one; and the way back. -/
theorem ES.push (h : ES w0 W bg bl bm gc vl vm more Fm) {a : Nat} (ha : a < more.length) : ∃ g off cap, vm = .slice (some ⟨g, off, none⟩) more.length cap ∧
    ∃ p kp, W.cell? ⟨g, off + a, none⟩ = some (.slice p more[a].length kp) ∧ W.frozen? ⟨g, off + a, none⟩ = false ∧ RowAt W 3 1 (.slice p more[a].length kp) more[a].length (more[a].flatMap fun n : Nat => [Value.int .i64 (n : Int)]) ∧
      (∀ j, (Value.slice p more[a].length kp).ownBlock = some j → j ∈ Fm) ∧
      (∀ w1 w3, Chg (fun _ => False) W w1 → Chg (fun j => (Value.slice p more[a].length kp).ownBlock = some j) w1 w3 → w3.cell? ⟨g, off + a, none⟩ = some (.slice p more[a].length kp) ∧ w3.frozen? ⟨g, off + a, none⟩ = false) ∧
      ∀ w1 w3 (y : Nat) v2, Chg (fun _ => False) W w1 → RowAt w3 3 1 v2 (more[a].length + 1) ((more[a].flatMap fun n : Nat => [Value.int .i64 (n : Int)]) ++ [.int .i64 (y : Int)]) →
        Chg (fun j => (Value.slice p more[a].length kp).ownBlock = some j) w1 w3 → (∀ j, v2.ownBlock = some j → (Value.slice p more[a].length kp).ownBlock = some j ∨ w1.heap.size ≤ j) →
        ∃ Fm', ES w0 (w3.setCell ⟨g, off + a, none⟩ v2) bg bl bm gc vl vm (more.set a (more[a] ++ [y])) Fm' := by
  obtain ⟨g, off, cap, rfl, -, -, hg, hel⟩ := h.row.elem (by omega)
  obtain ⟨G, h1, h2, h3, h4⟩ := hel a ha
  rw [show off + a * (natR.row 3).n = off + a from by show off + a * 1 = off + a; omega] at h1 h4
  obtain ⟨p, kp, xs, Fs, q1, q2, -, -, q5, q6⟩ := h1.appending
  have e : xs.flatten = more[a].flatMap fun n : Nat => [Value.int .i64 (n : Int)] := (each_flat (n := 1) (f := fun n : Nat => [Value.int .i64 (n : Int)]) (hf := fun _ => rfl) q2.each).1
  have hrow := q2.row
  rw [e] at hrow
  refine ⟨g, off, cap, rfl, p, kp, q1, q5, hrow, fun j hj => h2 _ (by rw [q2.fp]; exact List.mem_append_left _ (mem_ownL.2 hj)), q6, fun w1 w3 y v2 k1 k2 k3 k4 => ?_⟩
  rw [← e] at k2
  obtain ⟨F', r1, r2⟩ := q2.push h1 k1 (x := [.int .i64 (y : Int)]) (a := y) (G := []) ⟨rfl, rfl⟩ (by simp) (by simp) k2 k3 k4
  obtain ⟨F2, s1, s2, s3⟩ := h4 _ _ _ r1 r2
  have hs : ∀ k, k < W.heap.size → k ∉ Fm → k ∉ F2 := fun k hk hn x => by
    rcases s3 k x with q | q
    · exact hn q
    · omega
  refine ⟨F2, s1, h.chg.trans s2 (fun _ _ x => x) (fun i hi x => by have := h.lo i x; omega), fun k hk => ?_, ?_, s2.keep h.g h.bs.1.2, s2.keep h.l h.bs.2.1.2, s2.keep h.m h.bs.2.2.2⟩
  · rcases s3 k hk with q | q
    · exact h.lo k q
    · have := h.chg.size; omega
  · obtain ⟨⟨x1, x2⟩, ⟨x3, x4⟩, ⟨x5, x6⟩⟩ := h.bs
    have := s2.size
    exact ⟨⟨by omega, hs _ x1 x2⟩, ⟨by omega, hs _ x3 x4⟩, ⟨by omega, hs _ x5 x6⟩⟩
end
theorem info_ints : (Try.prog.info? 30).map (fun i => (i.zero, i.size, i.bytes)) = some (some (.slice none 0 0), 1, 24) := by kernel_rfl
end Go.Proofs.Ythiiehanlconeaa
namespace Go.Proofs.Ythiiehanlconeaa
open Go.RowKit
set_option linter.unusedVariables false
set_option linter.unusedSimpArgs false

theorem madeRows (W : World) (n : Nat) (hn : n ≤ 1000) : Row (natR.row 3) 30 (W.alloc (.cells (Array.replicate n (.slice none 0 0)) 30)) (.slice (some ⟨W.heap.size, 0, none⟩) n n) (List.replicate n []) [W.heap.size] := by
  have hf : ∀ m : Nat, (List.replicate m [Value.slice none 0 0]).flatten = List.replicate m (.slice none 0 0) := fun m => by
    induction m with
    | zero => rfl
    | succ m ih => rw [List.replicate_succ, List.flatten_cons, ih]; rfl
  have hr := RowAt.made W 30 (.slice none 0 0) n (by unfold maxLen; omega)
  rw [← hf] at hr
  have h0 : (natR.row 3).own (W.alloc (.cells (Array.replicate n (.slice none 0 0)) 30)) [.slice none 0 0] [] [] := ⟨_, [], [], rfl, RowAt.nil _ _ _, .nil, rfl⟩
  refine ⟨⟨_, List.replicate n [.slice none 0 0], List.replicate n [], rfl, ?_, each_same h0 n, ?_⟩, by simp⟩
  · rw [List.length_replicate]; exact hr
  · rw [ownL_some]; simp
theorem es_init (w : World) (gc : List Value) (vl : Value) (n : Nat) (hn : n ≤ 1000) :
    ES w ((((w.alloc (.cells gc.toArray 26)).alloc (.cells #[vl] 30)).alloc (.cells (Array.replicate n (.slice none 0 0)) 30)).alloc (.cells #[.slice (some ⟨w.heap.size + 1 + 1, 0, none⟩) n n] 37)) w.heap.size (w.heap.size + 1) (w.heap.size + 1 + 1 + 1) gc vl (.slice (some ⟨w.heap.size + 1 + 1, 0, none⟩) n n) (List.replicate n []) [w.heap.size + 1 + 1] := by
  have hr := madeRows ((w.alloc (.cells gc.toArray 26)).alloc (.cells #[vl] 30)) n hn
  have b1 := alloc_block w (.cells gc.toArray 26)
  have b2 := alloc_block (w.alloc (.cells gc.toArray 26)) (.cells #[vl] 30)
  have b4 := alloc_block (((w.alloc (.cells gc.toArray 26)).alloc (.cells #[vl] 30)).alloc (.cells (Array.replicate n (.slice none 0 0)) 30)) (.cells #[.slice (some ⟨w.heap.size + 1 + 1, 0, none⟩) n n] 37)
  simp only [World.size_alloc] at hr b2 b4
  refine ⟨hr.still (Chg.alloc _ _ _), (((Chg.alloc _ _ _).allocR _).allocR _).allocR _, fun k hk => by rw [List.mem_singleton.1 hk]; omega, ?_, ?_, ?_, b4⟩
  · simp only [World.size_alloc, List.mem_singleton]; omega
  · exact (Chg.alloc (fun _ => False) _ _).keep ((Chg.alloc (fun _ => False) _ _).keep ((Chg.alloc (fun _ => False) _ _).keep b1 (fun x => x)) (fun x => x)) (fun x => x)
  · exact (Chg.alloc (fun _ => False) _ _).keep ((Chg.alloc (fun _ => False) _ _).keep b2 (fun x => x)) (fun x => x)
def pairC (ps : List (Nat × Nat)) : List (List Value) := ps.map fun p => [.int .u8 (p.1 : Int), .int .u8 (p.2 : Int)]
set_option maxHeartbeats 6400000 in
set_option maxRecDepth 100000 in
theorem edges_any (w : World) (N : Nat) (a1 a2 ap al : Option Addr) (l1 c1 l2 c2 cp n kl : Nat) (ps : List (Nat × Nat)) (h0 : 0 < n) (h1 : n ≤ 1000) (hp : ArgRows w (.slice ap ps.length cp) 2 (pairC ps)) (hp1 : ∀ p ∈ ps, p.1 < 256 ∧ p.2 < 256) (hpl : ps.length ≤ 10) :
    Calls Try.prog 9 #[.agg #[.int .u8 (N : Int), .slice a1 l1 c1, .slice a2 l2 c2, .slice ap ps.length cp], .slice al n kl] w
      fun e w' => ∃ bl bm vm Fm, e = .returned (.tuple #[.func (.func 27) #[] #[.pointer (some ⟨bl, 0, none⟩), .pointer (some ⟨bm, 0, none⟩)], vm]) ∧ Row (natR.row 3) 30 w' vm (moreM n ps) Fm ∧ w'.cell? ⟨bl, 0, none⟩ = some (.slice al n kl) ∧ w'.cell? ⟨bm, 0, none⟩ = some vm ∧ Chg (fun _ => False) w w' := by
  have HMX := fun W => (run_makeOne (P := Try.prog) Try.underlying37 info_ints rfl (n : Int) (by omega) (by omega) (by omega) : ∀ W, _) W
  rw [Int.toNat_natCast] at HMX
  have HP := Lib.hid hp
  have HP1 := Lib.hid hp1
  have HPL := Lib.hid hpl
  have HN0 := Lib.hid h0
  have HN1 := Lib.hid h1
  have nn : (n : Int) ≤ 1000 := by omega
  clear hp hp1 hpl h0 h1
  go_enter Try.func9, Try.ntmps9
  go_wp2_with fail
  have HES0 := Lib.hid (es_init w [.int .u8 (N : Int), .slice a1 l1 c1, .slice a2 l2 c2, .slice ap ps.length cp] (.slice al n kl) n HN1.out)
  clear HMX
  generalize (((w.alloc (.cells #[.int .u8 (N : Int), .slice a1 l1 c1, .slice a2 l2 c2, .slice ap ps.length cp] 26)).alloc (.cells #[.slice al n kl] 30)).alloc (.cells (Array.replicate n (.slice none 0 0)) 30)).alloc (.cells #[.slice (some ⟨(w.heap.size + 1 + 1), 0, none⟩) n n] 37) = W4 at *
  generalize w.heap.size + 1 + 1 + 1 = bm at *
  generalize w.heap.size + 1 + 1 = bv at *
  generalize w.heap.size + 1 = bl at *
  generalize hbg : w.heap.size = bg at *
  clear hbg
  have z0 : ((n : Int) == 0) = false := beq_false_of_ne (by have := HN0.out; omega)
  have z1 : ¬ n = 0 := by have := HN0.out; omega
  have z2 : ¬ (n : Int) = 0 := by omega
  go_loopw [7, 8] (fun u7 _ wr => ∃ (k : Nat) (more : List (List Nat)) (Fm : List Nat), k ≤ ps.length ∧ u7 = .int .i64 k ∧ Hid (more = moreM n (ps.take k)) ∧ Hid (ES w wr bg bl bm [.int .u8 (N : Int), .slice a1 l1 c1, .slice a2 l2 c2, .slice ap ps.length cp] (.slice al n kl) (.slice (some ⟨bv, 0, none⟩) n n) more Fm)) (fun u7 _ _ => ps.length - (intOf u7).toNat)
  case atStart => exact ⟨0, _, _, by omega, rfl, Lib.hid rfl, HES0⟩
  case round =>
    clear HES0
    obtain ⟨k, more, Fm, hk, rfl, HMO, HES⟩ := hrel
    have b3 := cell_of_block (i := 3) HES.out.g rfl
    simp only [List.getElem_toArray, List.getElem_cons_zero, List.getElem_cons_succ] at b3
    have HB3 := Lib.hid b3
    by_cases hlt : k < ps.length
    · have i0 : (0 : Int) ≤ (k : Int) := by omega
      have i1 : (k : Int) < (ps.length : Int) := by omega
      have w64 : IntKind.i64.wrap ((k : Int) + 1) = ((k + 1 : Nat) : Int) := IntWalk.i64_in _ (by have := HPL.out; omega)
      have hlc : k < (pairC ps).length := by unfold pairC; rw [List.length_map]; exact hlt
      obtain ⟨gp, op_, cp', e, hcell⟩ := argRows_at HP.out hlc
      unfold pairC at e
      rw [List.length_map] at e
      cases e
      have he : (pairC ps)[k] = [.int .u8 (ps[k].1 : Int), .int .u8 (ps[k].2 : Int)] := List.getElem_map _
      rw [he] at hcell
      have t0 := hcell 0 _ rfl
      have t1 := hcell 1 _ rfl
      have HGP : Hid (gp < w.heap.size) := Lib.hid (World.block_lt_of_cell? w _ t0)
      have q0 := HES.out.chg.cell t0
      have q1 := HES.out.chg.cell t1
      rw [Nat.add_zero] at q0
      have hb := HP1.out _ (List.getElem_mem hlt)
      have hok := moreM_ok HN0.out (ps.take k)
      rw [← HMO.out] at hok
      have ht : moreM n (ps.take (k + 1)) = moreS n more ps[k] := by rw [List.take_succ_eq_append_getElem hlt, moreM_snoc, ← HMO.out]
      have hkl : (ps.take k).length ≤ 10 := by rw [List.length_take]; have := HPL.out; omega
      clear hk hcell he hlc t0 t1
      generalize ps[k] = pk at *
      obtain ⟨x, y⟩ := pk
      dsimp only at *
      have HLT := Lib.hid hlt
      have HNX := Lib.hid (show k + 1 ≤ ps.length from hlt)
      have tx := tmod_nat x n
      have ty := tmod_nat y n
      have wx : IntKind.i64.wrap (x : Int) = (x : Int) := IntWalk.i64_in _ (by have := hb.1; omega)
      have wy : IntKind.i64.wrap (y : Int) = (y : Int) := IntWalk.i64_in _ (by have := hb.2; omega)
      have hqa : x % n < n := Nat.mod_lt _ HN0.out
      unfold moreS at ht
      dsimp only at ht
      generalize x % n = qa at *
      generalize y % n = yb at *
      have hqm : qa < more.length := by rw [hok.len]; exact hqa
      have hfa := hok.few _ (List.getElem_mem hqm)
      have hml := hok.len
      rw [getD_get hqm] at ht
      have bl0 := cell_of_block (i := 0) HES.out.l rfl
      simp only [List.getElem_toArray, List.getElem_cons_zero] at bl0
      have a0 : (0 : Int) ≤ (qa : Int) := by omega
      have a1' : (qa : Int) < (n : Int) := by omega
      clear hlt hb
      go_upto_region 5 with fail
      go_cut [8] from 19 to 47 (fun u8 wx => u8 = .int .i64 (qa : Int) ∧ Hid (Chg (fun _ => False) wr wx))
      case first =>
        go_quiet (fail)
        all_goals (
          go_wp2_with fail
          go_meet
          exact ⟨rfl, Lib.hid (Chg.drewN _ _ _)⟩)
      case rest =>
      obtain ⟨rfl, HCX⟩ := hcut
      have HEW := Lib.hid (HES.out.still HCX.out)
      have q1c := HCX.out.cell q1
      have b3c := HCX.out.cell b3
      have blc := HCX.out.cell bl0
      have bmc := cell_of_block (i := 0) HEW.out.m rfl
      simp only [List.getElem_toArray, List.getElem_cons_zero] at bmc
      obtain ⟨gm, om, km, ev, p, kp, c1', hfz, hrw, hin, hst, hbk⟩ := HEW.out.push hqm
      have HFA : Hid (more[qa].length ≤ 10) := Lib.hid (Nat.le_trans hfa hkl)
      have HT : Hid (more.set qa (more[qa] ++ [yb]) = moreM n (ps.take (k + 1))) := Lib.hid ht.symm
      have HIN := Lib.hid hin
      have HST := Lib.hid hst
      have HBK := Lib.hid hbk
      have HRW := Lib.hid hrw
      have HML := Lib.hid hml
      have bs := HEW.out.bs
      have HN2 : Hid (¬ (Value.slice p more[qa].length kp).ownBlock = some bm) := Lib.hid (fun hj => bs.2.2.2 (hin _ hj))
      have HN3 : Hid (¬ (Value.slice p more[qa].length kp).ownBlock = some bg) := Lib.hid (fun hj => bs.1.2 (hin _ hj))
      have HN4 : Hid (¬ (Value.slice p more[qa].length kp).ownBlock = some gp) := Lib.hid (fun hj => by have := HEW.out.lo _ (hin _ hj); have := HGP.out; omega)
      have HN5 : Hid (¬ (Value.slice p more[qa].length kp).ownBlock = some bl) := Lib.hid (fun hj => bs.2.1.2 (hin _ hj))
      rw [hml] at ev
      cases ev
      rw [Nat.zero_add] at c1' hfz HST HBK
      clear hin hst hbk hrw bs ht hfa hkl hok HCX q0 q1 b3 bl0 HB3 tx HES HIN
      generalize more[qa] = ma at *
      clear hqm hqa
      have HS0 : Hid (wc.cell? ⟨bm, 0, none⟩ = some (.slice (some ⟨bv, 0, none⟩) n n) ∧ wc.cell? ⟨bv, qa, none⟩ = some (.slice p ma.length kp) ∧ wc.cell? ⟨bg, 3, none⟩ = some (.slice (some ⟨gp, op_, none⟩) ps.length cp) ∧ wc.cell? ⟨gp, op_ + k * 2 + 1, none⟩ = some (.int .u8 (y : Int)) ∧ wc.cell? ⟨bl, 0, none⟩ = some (.slice al n kl)) := Lib.hid ⟨bmc, c1', b3c, q1c, blc⟩
      clear bmc c1' b3c q1c blc
      go_upto_region 6 with fail
      refine wp_region_held_split 19 (fun w' => w'.cell? ⟨bm, 0, none⟩ = some (.slice (some ⟨bv, 0, none⟩) n n) ∧ w'.cell? ⟨bv, qa, none⟩ = some (.slice p ma.length kp) ∧ w'.cell? ⟨bg, 3, none⟩ = some (.slice (some ⟨gp, op_, none⟩) ps.length cp) ∧ w'.cell? ⟨gp, op_ + k * 2 + 1, none⟩ = some (.int .u8 (y : Int)) ∧ w'.cell? ⟨bl, 0, none⟩ = some (.slice al n kl)) (by kernel_rfl) (by kernel_rfl) ?_ (fun hHeld => ?_)
      · (first | exact HS0.out | exact HKS.out _ (Chg.refl _ _) | exact HKS.out _ (Chg.alloc _ _ _) | exact ⟨hchg2.cellS (HKS.out _ (Chg.alloc _ wD (.cells #[.int .i64 (yb : Int)] 3))).1 HN2.out, cc2, hchg2.cellS (HKS.out _ (Chg.alloc _ wD (.cells #[.int .i64 (yb : Int)] 3))).2.2.1 HN3.out, hchg2.cellS (HKS.out _ (Chg.alloc _ wD (.cells #[.int .i64 (yb : Int)] 3))).2.2.2.1 HN4.out, hchg2.cellS (HKS.out _ (Chg.alloc _ wD (.cells #[.int .i64 (yb : Int)] 3))).2.2.2.2 HN5.out⟩)
      simp only [List.take_succ_cons, List.take_zero]
      have HKS : Hid (∀ W, Chg (fun _ => False) wc.drew W → W.cell? ⟨bm, 0, none⟩ = some (.slice (some ⟨bv, 0, none⟩) n n) ∧ W.cell? ⟨bv, qa, none⟩ = some (.slice p ma.length kp) ∧ W.cell? ⟨bg, 3, none⟩ = some (.slice (some ⟨gp, op_, none⟩) ps.length cp) ∧ W.cell? ⟨gp, op_ + k * 2 + 1, none⟩ = some (.int .u8 (y : Int)) ∧ W.cell? ⟨bl, 0, none⟩ = some (.slice al n kl)) := Lib.hid (fun W hc => ⟨hc.cell HS0.out.1, hc.cell HS0.out.2.1, hc.cell HS0.out.2.2.1, hc.cell HS0.out.2.2.2.1, hc.cell HS0.out.2.2.2.2⟩)
      have HRA : Hid (∀ W, Chg (fun _ => False) wc.drew W → RowAt W 3 1 (.slice p ma.length kp) ma.length (ma.flatMap fun n : Nat => [Value.int .i64 (n : Int)])) := Lib.hid (fun W hc => HRW.out.drew.chg hc (fun _ _ x => x))
      have HWD : Hid (Chg (fun _ => False) wc wc.drew) := Lib.hid (Chg.refl _ wc).drewR
      generalize wc.drew = wD at *
      refine wpAnyH_take (i := 0) (v := ?_) rfl (by kernel_rfl) (by kernel_rfl) (by kernel_rfl) (fun _ _ _ h => h) (Or.inl ⟨by rfl, ?_⟩) (by assumption) ?_
      rotate_left
      · (intro wq hSw; (try dsimp only at hSw); go_simp; (try with_reducible rfl))
      simp only [Act.put, List.getElem_toArray, List.getElem_cons_zero, List.getElem_cons_succ, List.setIfInBounds_toArray, List.set_cons_zero, List.set_cons_succ]
      refine wpAnyH_take (i := 1) (v := ?_) rfl (by kernel_rfl) (by kernel_rfl) (by kernel_rfl) (fun _ _ _ h => h) (Or.inl ⟨by rfl, ?_⟩) (by assumption) ?_
      rotate_left
      · (intro wq hSw; (try dsimp only at hSw); go_simp; (try with_reducible rfl))
      simp only [Act.put, List.getElem_toArray, List.getElem_cons_zero, List.getElem_cons_succ, List.setIfInBounds_toArray, List.set_cons_zero, List.set_cons_succ]
      refine wpAnyH_take (i := 2) (v := ?_) rfl (by kernel_rfl) (by kernel_rfl) (by kernel_rfl) (fun _ _ _ h => h) (Or.inl ⟨by rfl, ?_⟩) (by assumption) ?_
      rotate_left
      · (intro wq hSw; (try dsimp only at hSw); go_simp; (try with_reducible rfl))
      simp only [Act.put, List.getElem_toArray, List.getElem_cons_zero, List.getElem_cons_succ, List.setIfInBounds_toArray, List.set_cons_zero, List.set_cons_succ]
      refine wpAnyH_take (i := 3) (v := ?_) rfl (by kernel_rfl) (by kernel_rfl) (by kernel_rfl) (fun _ _ _ h => h) (Or.inl ⟨by rfl, ?_⟩) (by assumption) ?_
      rotate_left
      · (intro wq hSw; (try dsimp only at hSw); go_simp; (try with_reducible rfl))
      simp only [Act.put, List.getElem_toArray, List.getElem_cons_zero, List.getElem_cons_succ, List.setIfInBounds_toArray, List.set_cons_zero, List.set_cons_succ]
      refine wpAnyH_take (i := 4) (v := ?_) rfl (by kernel_rfl) (by kernel_rfl) (by kernel_rfl) (fun _ _ _ h => h) (Or.inl ⟨by rfl, ?_⟩) (by assumption) ?_
      rotate_left
      · (intro wq hSw; (try dsimp only at hSw); go_simp; (try with_reducible rfl))
      simp only [Act.put, List.getElem_toArray, List.getElem_cons_zero, List.getElem_cons_succ, List.setIfInBounds_toArray, List.set_cons_zero, List.set_cons_succ]
      refine wpAnyH_take (i := 5) (v := ?_) rfl (by kernel_rfl) (by kernel_rfl) (by kernel_rfl) (fun _ _ _ h => h) (Or.inl ⟨by rfl, ?_⟩) (by assumption) ?_
      rotate_left
      · (intro wq hSw; (try dsimp only at hSw); go_simp; (try with_reducible rfl))
      simp only [Act.put, List.getElem_toArray, List.getElem_cons_zero, List.getElem_cons_succ, List.setIfInBounds_toArray, List.set_cons_zero, List.set_cons_succ]
      refine wpAnyH_take (i := 6) (v := ?_) rfl (by kernel_rfl) (by kernel_rfl) (by kernel_rfl) (fun _ _ _ h => h) (Or.inl ⟨by rfl, ?_⟩) (by assumption) ?_
      rotate_left
      · (intro wq hSw; (try dsimp only at hSw); go_simp; (try with_reducible rfl))
      simp only [Act.put, List.getElem_toArray, List.getElem_cons_zero, List.getElem_cons_succ, List.setIfInBounds_toArray, List.set_cons_zero, List.set_cons_succ]
      refine wpAnyH_take (i := 7) (v := ?_) rfl (by kernel_rfl) (by kernel_rfl) (by kernel_rfl) (fun _ _ _ h => h) (Or.inl ⟨by rfl, ?_⟩) (by assumption) ?_
      rotate_left
      · (intro wq hSw; (try dsimp only at hSw); go_simp; (try with_reducible rfl))
      simp only [Act.put, List.getElem_toArray, List.getElem_cons_zero, List.getElem_cons_succ, List.setIfInBounds_toArray, List.set_cons_zero, List.set_cons_succ]
      refine wpAnyH_take (i := 8) (v := ?_) rfl (by kernel_rfl) (by kernel_rfl) (by kernel_rfl) (fun _ _ _ h => h) (Or.inl ⟨by rfl, ?_⟩) (by assumption) ?_
      rotate_left
      · (intro wq hSw; (try dsimp only at hSw); go_simp; (try with_reducible rfl))
      simp only [Act.put, List.getElem_toArray, List.getElem_cons_zero, List.getElem_cons_succ, List.setIfInBounds_toArray, List.set_cons_zero, List.set_cons_succ]
      refine wpAnyH_take (i := 9) (v := ?_) rfl (by kernel_rfl) (by kernel_rfl) (by kernel_rfl) (fun _ _ _ h => h) (Or.inl ⟨by rfl, ?_⟩) (by assumption) ?_
      rotate_left
      · (intro wq hSw; (try dsimp only at hSw); go_simp; (try with_reducible rfl))
      simp only [Act.put, List.getElem_toArray, List.getElem_cons_zero, List.getElem_cons_succ, List.setIfInBounds_toArray, List.set_cons_zero, List.set_cons_succ]
      refine wpAnyH_take (i := 10) (v := ?_) rfl (by kernel_rfl) (by kernel_rfl) (by kernel_rfl) (fun _ _ _ h => h) (Or.inl ⟨by rfl, ?_⟩) (by assumption) ?_
      rotate_left
      · (intro wq hSw; (try dsimp only at hSw); go_simp; (try with_reducible rfl))
      simp only [Act.put, List.getElem_toArray, List.getElem_cons_zero, List.getElem_cons_succ, List.setIfInBounds_toArray, List.set_cons_zero, List.set_cons_succ]
      refine wpAnyH_take (i := 11) (v := ?_) rfl (by kernel_rfl) (by kernel_rfl) (by kernel_rfl) (fun _ _ _ h => h) (Or.inl ⟨by rfl, ?_⟩) (by assumption) ?_
      rotate_left
      · (intro wq hSw; (try dsimp only at hSw); go_simp; (try with_reducible rfl))
      simp only [Act.put, List.getElem_toArray, List.getElem_cons_zero, List.getElem_cons_succ, List.setIfInBounds_toArray, List.set_cons_zero, List.set_cons_succ]
      refine wpAnyH_take (i := 12) (v := ?_) rfl (by kernel_rfl) (by kernel_rfl) (by kernel_rfl) (fun _ _ _ h => h) (Or.inl ⟨by rfl, ?_⟩) (by assumption) ?_
      rotate_left
      · (intro wq hSw; (try dsimp only at hSw); go_simp; (try with_reducible rfl))
      simp only [Act.put, List.getElem_toArray, List.getElem_cons_zero, List.getElem_cons_succ, List.setIfInBounds_toArray, List.set_cons_zero, List.set_cons_succ]
      refine wpAnyH_take (i := 13) (v := ?_) rfl (by kernel_rfl) (by kernel_rfl) (by kernel_rfl) (fun _ _ _ h => h) (Or.inl ⟨by rfl, ?_⟩) (by assumption) ?_
      rotate_left
      · (intro wq hSw; (try dsimp only at hSw); go_simp; (try with_reducible rfl))
      simp only [Act.put, List.getElem_toArray, List.getElem_cons_zero, List.getElem_cons_succ, List.setIfInBounds_toArray, List.set_cons_zero, List.set_cons_succ]
      refine wpAnyH_take (i := 14) (v := ?_) rfl (by kernel_rfl) (by kernel_rfl) (by kernel_rfl) (fun _ _ _ h => h) (Or.inl ⟨by rfl, ?_⟩) (by assumption) ?_
      rotate_left
      · (intro wq hSw; (try dsimp only at hSw); go_simp; (try with_reducible rfl))
      simp only [Act.put, List.getElem_toArray, List.getElem_cons_zero, List.getElem_cons_succ, List.setIfInBounds_toArray, List.set_cons_zero, List.set_cons_succ]
      refine wpAnyH_take (i := 15) (v := ?_) rfl (by kernel_rfl) (by kernel_rfl) (by kernel_rfl) (fun _ _ _ h => h) (Or.inl ⟨by rfl, ?_⟩) (by assumption) ?_
      rotate_left
      · (intro wq hSw; (try dsimp only at hSw); go_simp; (try with_reducible rfl))
      simp only [Act.put, List.getElem_toArray, List.getElem_cons_zero, List.getElem_cons_succ, List.setIfInBounds_toArray, List.set_cons_zero, List.set_cons_succ]
      refine wpAnyH_ready (rs := [16]) (by kernel_rfl) (by simp) ?_
      refine AllReadyH.cons (by simp only [List.getElem?_toArray, List.getElem?_cons_succ, List.getElem?_cons_zero]; rfl) (fun K hK => ?_) AllReadyH.nil
      go_simp
      refine hK.out _ _ ?_ (fun hHeld => ?_)
      · (first | exact HS0.out | exact HKS.out _ (Chg.refl _ _) | exact HKS.out _ (Chg.alloc _ _ _) | exact ⟨hchg2.cellS (HKS.out _ (Chg.alloc _ wD (.cells #[.int .i64 (yb : Int)] 3))).1 HN2.out, cc2, hchg2.cellS (HKS.out _ (Chg.alloc _ wD (.cells #[.int .i64 (yb : Int)] 3))).2.2.1 HN3.out, hchg2.cellS (HKS.out _ (Chg.alloc _ wD (.cells #[.int .i64 (yb : Int)] 3))).2.2.2.1 HN4.out, hchg2.cellS (HKS.out _ (Chg.alloc _ wD (.cells #[.int .i64 (yb : Int)] 3))).2.2.2.2 HN5.out⟩)
      clear hK K
      (try simp only [Act.put, List.getElem_toArray, List.getElem_cons_zero, List.getElem_cons_succ, List.setIfInBounds_toArray, List.set_cons_zero, List.set_cons_succ])
      refine wpAnyH_ready (rs := [17]) (by kernel_rfl) (by simp) ?_
      refine AllReadyH.cons (by simp only [List.getElem?_toArray, List.getElem?_cons_succ, List.getElem?_cons_zero]; rfl) (fun K hK => ?_) AllReadyH.nil
      (refine step_append_rows (by rfl) _ _ 30 (by rfl) 3 1 8 Try.underlying30 elem_int (by decide) _ ma.length _ (by rfl) (HRA.out _ (Chg.alloc _ wD (.cells #[.int .i64 (yb : Int)] 3))) _ 1 [.int .i64 (yb : Int)] (by rfl) (RowAt.lit [.int .i64 (yb : Int)] rfl (by simp [maxLen])) (by intro u hu; rw [List.mem_singleton.1 hu]; rfl) (by have := HFA.out; unfold maxLen; omega) (by have := HFA.out; omega) ?_; intro a2 n2 cp2 w2 hrow2 hchg2 hold2; have cc2 := (HST.out _ _ (HWD.out.allocR (.cells #[.int .i64 (yb : Int)] 3)) hchg2).1; have f2 := (HST.out _ _ (HWD.out.allocR (.cells #[.int .i64 (yb : Int)] 3)) hchg2).2)
      refine hK.out _ _ ?_ (fun hHeld => ?_)
      · (first | exact HS0.out | exact HKS.out _ (Chg.refl _ _) | exact HKS.out _ (Chg.alloc _ _ _) | exact ⟨hchg2.cellS (HKS.out _ (Chg.alloc _ wD (.cells #[.int .i64 (yb : Int)] 3))).1 HN2.out, cc2, hchg2.cellS (HKS.out _ (Chg.alloc _ wD (.cells #[.int .i64 (yb : Int)] 3))).2.2.1 HN3.out, hchg2.cellS (HKS.out _ (Chg.alloc _ wD (.cells #[.int .i64 (yb : Int)] 3))).2.2.2.1 HN4.out, hchg2.cellS (HKS.out _ (Chg.alloc _ wD (.cells #[.int .i64 (yb : Int)] 3))).2.2.2.2 HN5.out⟩)
      clear hK K
      (try simp only [Act.put, List.getElem_toArray, List.getElem_cons_zero, List.getElem_cons_succ, List.setIfInBounds_toArray, List.set_cons_zero, List.set_cons_succ])
      refine wpAnyH_take (i := 18) (v := ?_) rfl (by kernel_rfl) (by kernel_rfl) (by kernel_rfl) (fun _ _ _ h => h) (Or.inl ⟨by rfl, ?_⟩) (by assumption) ?_
      rotate_left
      · (intro wq hSw; (try dsimp only at hSw); go_simp; (try with_reducible rfl))
      simp only [Act.put, List.getElem_toArray, List.getElem_cons_zero, List.getElem_cons_succ, List.setIfInBounds_toArray, List.set_cons_zero, List.set_cons_succ]
      refine wpAnyH_done (by kernel_rfl) ?_ _
      change wpList _ _ _ _ _ _
      simp only [List.drop_succ_cons, List.drop_zero]
      have HBW := Lib.hid (HBK.out _ _ yb _ (HWD.out.allocR (.cells #[.int .i64 (yb : Int)] 3)) hrow2 hchg2 hold2)
      clear hrow2 hchg2 hold2 HBK
      go_wp2_with fail
      obtain ⟨Fm2, hes2⟩ := HBW.out
      go_roundw
      case rel => exact ⟨k + 1, _, Fm2, HNX.out, rfl, HT, Lib.hid hes2⟩
      case measure => have := HLT.out; simp [intOf, w64]; omega
    · have hk2 : k = ps.length := by omega
      subst hk2
      rw [List.take_length] at HMO
      clear hlt hk
      have bm0 := cell_of_block (i := 0) HES.out.m rfl
      simp only [List.getElem_toArray, List.getElem_cons_zero] at bm0
      go_wp2_with fail
      go_quiet (fail)
      all_goals (
        go_wp2_with fail
        go_ret2
        refine ⟨bl, bm, _, Fm, rfl, ?_, ?_, ?_, ?_⟩
        · rw [← HMO.out]; exact HES.out.row.still (Chg.drewN _ _ _)
        · exact (Chg.drewN (fun _ => False) _ _).cell (cell_of_block (i := 0) HES.out.l rfl)
        · exact (Chg.drewN (fun _ => False) _ _).cell (cell_of_block (i := 0) HES.out.m rfl)
        · exact HES.out.chg.trans' (Chg.drewN _ _ _))
end Go.Proofs.Ythiiehanlconeaa
namespace Go.Proofs.Ythiiehanlconeaa
open Go.ChangeShapes Go.WideShapes Go.ChangeAt Go.RowKit
set_option linter.unusedVariables false

section
variable {H : Type} {enc : TypeId × Value → H} {P : Program} {w : World}
/-- A slice in a field: its elements, each read by its own type. -/
theorem open_field {t e : TypeId} {x : List Value} {o fuel : Nat} {y : DataW H × List MemPlace} (ht : P.underlying t = some (.slice e)) (hc : P.cellsOf t = 1) (hn : 0 < P.cellsOf e) (h : DataW.trod enc P w 0 (fun _ => true) true fuel t ((x.drop o).take (P.cellsOf t)) = some y) :
    ∃ (a : Option Addr) (cap : Nat) (xs : List (List Value)), x[o]? = some (.slice a xs.length cap) ∧ ArgRows w (.slice a xs.length cap) (P.cellsOf e) xs ∧ ∀ z ∈ xs, z.length = P.cellsOf e ∧ ∃ fuel y, DataW.trod enc P w 0 (fun _ => true) true fuel e z = some y := by
  rw [hc] at h
  rcases DataW.trod_slice ht h with ⟨hcs, -⟩ | ⟨ad, len, cap, elems, rest, n, -, hcs, -, -, hl, hm, hlen, hel, -, -⟩
  · exact ⟨none, 0, [], one_get hcs, ⟨none, 0, rfl, Nat.le_refl _, by simp, fun h => absurd rfl h⟩, by simp⟩
  · have each : ∀ i, i < len → ∃ cs, w.cells? 0 (ad.add (i * P.cellsOf e)) (P.cellsOf e) = some cs ∧ ∃ y, DataW.trod enc P w 0 (fun _ => true) true n e cs = some y := by
      intro i hi
      have h1 := hel i hi
      rw [List.getElem?_eq_getElem (by omega), Option.bind_eq_some_iff] at h1
      obtain ⟨cs, h2, h3⟩ := h1
      exact ⟨cs, h2, _, h3⟩
    let f : Nat → List Value := fun i => (w.cells? 0 (ad.add (i * P.cellsOf e)) (P.cellsOf e)).getD []
    have hlf : ((List.range len).map f).length = len := by simp
    refine ⟨some ad, cap, (List.range len).map f, by rw [hlf]; exact one_get hcs, ⟨some ad, cap, by rw [hlf], by rw [hlf]; exact hl, hm, fun hne => ?_⟩, fun x hx => ?_⟩
    · have h0 : 0 < len := by
        apply Nat.pos_of_ne_zero
        rintro rfl
        simp at hne
      obtain ⟨cs0, hc0, -⟩ := each 0 h0
      obtain ⟨-, hl0, hg0⟩ := World.cells?_some hc0
      have h1 := hg0 0 hn
      rw [List.getElem?_eq_getElem (by omega), Nat.zero_mul] at h1
      obtain ⟨g, off, hh⟩ := addr_none h1
      have hadd0 : ad.add 0 = ad := by obtain ⟨b', o', s'⟩ := ad; unfold Addr.add; split <;> simp_all
      rw [hadd0] at hh
      subst hh
      refine ⟨g, off, rfl, fun j i x u hj hi => ?_⟩
      rw [List.getElem?_map] at hj
      obtain ⟨k, hk, rfl⟩ := Option.map_eq_some_iff.1 hj
      obtain ⟨hk1, hk2⟩ := List.getElem?_eq_some_iff.1 hk
      rw [List.length_range] at hk1
      rw [List.getElem_range] at hk2
      subst hk2
      obtain ⟨cs, hc, -⟩ := each j hk1
      have hfx : f j = cs := by show (w.cells? 0 _ _).getD [] = cs; rw [hc]; rfl
      rw [hfx] at hi
      obtain ⟨-, hl', hg'⟩ := World.cells?_some hc
      have hi' : i < P.cellsOf e := by rw [← hl']; exact (List.getElem?_eq_some_iff.1 hi).1
      have h2 := hg' i hi'
      rw [hi, add_none, add_none] at h2
      exact h2
    · obtain ⟨i, hi, rfl⟩ := List.mem_map.1 hx
      rw [List.mem_range] at hi
      obtain ⟨cs, hc, y, hy⟩ := each i hi
      have hfx : f i = cs := by show (w.cells? 0 _ _).getD [] = cs; rw [hc]; rfl
      rw [hfx]
      obtain ⟨-, hl', -⟩ := World.cells?_some hc
      exact ⟨hl', n, y, hy⟩
end
theorem map_of {α : Type} {f : α → List Value} {Q : α → Prop} : ∀ (xs : List (List Value)), (∀ x ∈ xs, ∃ a, x = f a ∧ Q a) → ∃ l : List α, xs = l.map f ∧ ∀ a ∈ l, Q a
  | [], _ => ⟨[], rfl, by simp⟩
  | x :: xs, h => by
    obtain ⟨a, rfl, ha⟩ := h x (by simp)
    obtain ⟨l, rfl, hl⟩ := map_of xs fun y hy => h y (by simp [hy])
    exact ⟨a :: l, rfl, fun b hb => (List.mem_cons.1 hb).elim (fun e => e ▸ ha) (hl b)⟩
theorem lst4 {x : List Value} {a b c d : Value} (hl : x.length = 4) (h0 : x[0]? = some a) (h1 : x[1]? = some b) (h2 : x[2]? = some c) (h3 : x[3]? = some d) : x = [a, b, c, d] := by
  match x, hl with
  | [_, _, _, _], _ => simp_all

/-- The argument: a number of objects, links, roots, further references. -/
structure GA where
  N : Nat
  ks : List Lk
  zs : List Nat
  ps : List (Nat × Nat)
  a1 : Option Addr
  a2 : Option Addr
  a3 : Option Addr
  c1 : Nat
  c2 : Nat
  c3 : Nat
def GA.val (g : GA) : Value := .agg #[.int .u8 (g.N : Int), .slice g.a1 g.ks.length g.c1, .slice g.a2 g.zs.length g.c2, .slice g.a3 g.ps.length g.c3]
structure GAOk (w : World) (g : GA) : Prop where
  N : g.N < 256
  ks : ArgRows w (.slice g.a1 g.ks.length g.c1) 4 (g.ks.map Lk.cells)
  k1 : ∀ k ∈ g.ks, LkOk k
  zs : ArgRow w (.slice g.a2 g.zs.length g.c2) (u8C g.zs)
  z1 : ∀ z ∈ g.zs, z < 256
  ps : ArgRows w (.slice g.a3 g.ps.length g.c3) 2 (pairC g.ps)
  p1 : ∀ p ∈ g.ps, p.1 < 256 ∧ p.2 < 256
theorem nat_of {a : Int} (h : 0 ≤ a ∧ a ≤ 255) : ∃ n : Nat, a = (n : Int) ∧ n < 256 := ⟨a.toNat, by omega, by omega⟩
set_option maxRecDepth 100000 in
theorem open_graph {H : Type} {enc : TypeId × Value → H} {w : World} {base : Nat} {v : Value} {d : DataW H} {ps : List MemPlace} (hv : Value.okWide Try.prog w .any base 26 v) (h : DataW.Trod enc Try.prog w 0 (fun _ => true) true 26 v d ps) :
    ∃ g : GA, v = g.val ∧ GAOk w g := by
  have e1 : IntKind.u8.min = 0 := by decide
  have e2 : IntKind.u8.max = 255 := by decide
  have cu : Try.prog.cellsOf 5 = 1 := by kernel_rfl
  have cg : Try.prog.cellsOf 26 = 4 := by kernel_rfl
  have ck : Try.prog.cellsOf 86 = 4 := by kernel_rfl
  have cp : Try.prog.cellsOf 88 = 2 := by kernel_rfl
  obtain ⟨cs, rfl, hl, hf⟩ := open_struct Try.underlying26 hv h
  rw [cg] at hl
  obtain ⟨n0, y0, k0⟩ := hf 0 _ rfl
  obtain ⟨n1, y1, k1⟩ := hf 1 _ rfl
  obtain ⟨n2, y2, k2⟩ := hf 2 _ rfl
  obtain ⟨n3, y3, k3⟩ := hf 3 _ rfl
  obtain ⟨N, b0, r0⟩ := cell_int Try.underlying5 cu k0
  rw [e1, e2] at r0
  obtain ⟨N, rfl, hN⟩ := nat_of r0
  obtain ⟨a1, c1, xs1, b1, q1, z1⟩ := open_field Try.underlying22 (by kernel_rfl) (by rw [ck]; decide) k1
  obtain ⟨a2, c2, xs2, b2, q2, z2⟩ := open_field Try.underlying23 (by kernel_rfl) (by rw [cu]; decide) k2
  obtain ⟨a3, c3, xs3, b3, q3, z3⟩ := open_field Try.underlying24 (by kernel_rfl) (by rw [cp]; decide) k3
  rw [ck] at q1 z1
  rw [cu] at q2 z2
  rw [cp] at q3 z3
  obtain ⟨ks, rfl, hks⟩ := map_of (f := Lk.cells) (Q := LkOk) xs1 fun x hx => by
    obtain ⟨hxl, fu, yy, hy⟩ := z1 x hx
    obtain ⟨ys, m, _, _, _, hyl, hx'⟩ := DataW.trod_struct Try.underlying86 hy
    have g0 := hx' 0 _ rfl
    have g1 := hx' 1 _ rfl
    have g2 := hx' 2 _ rfl
    have g3 := hx' 3 _ rfl
    rw [List.getElem?_eq_getElem (by rw [hyl]; decide)] at g0 g1 g2 g3
    obtain ⟨m0, f0, s0⟩ := cell_int Try.underlying5 cu g0
    obtain ⟨m1, f1, s1⟩ := cell_int Try.underlying5 cu g1
    obtain ⟨m2, f2, s2⟩ := cell_int Try.underlying5 cu g2
    obtain ⟨m3, f3, s3⟩ := cell_int Try.underlying5 cu g3
    rw [e1, e2] at s0 s1 s2 s3
    obtain ⟨m0, rfl, t0⟩ := nat_of s0
    obtain ⟨m1, rfl, t1⟩ := nat_of s1
    obtain ⟨m2, rfl, t2⟩ := nat_of s2
    obtain ⟨m3, rfl, t3⟩ := nat_of s3
    exact ⟨⟨m0, m1, m2, m3⟩, lst4 hxl f0 f1 f2 f3, t0, t1, t2, t3⟩
  obtain ⟨zs, rfl, hzs⟩ := map_of (f := fun z : Nat => [Value.int .u8 (z : Int)]) (Q := fun z => z < 256) xs2 fun x hx => by
    obtain ⟨hxl, fu, yy, hy⟩ := z2 x hx
    obtain ⟨m0, f0, -, s0⟩ := DataW.trod_int Try.underlying5 hy
    have s0 := int_of_wf s0
    rw [e1, e2] at s0
    obtain ⟨m0, rfl, t0⟩ := nat_of s0
    exact ⟨m0, f0, t0⟩
  obtain ⟨ps, rfl, hps⟩ := map_of (f := fun p : Nat × Nat => [Value.int .u8 (p.1 : Int), .int .u8 (p.2 : Int)]) (Q := fun p => p.1 < 256 ∧ p.2 < 256) xs3 fun x hx => by
    obtain ⟨hxl, fu, yy, hy⟩ := z3 x hx
    obtain ⟨ys, m, _, _, _, hyl, hx'⟩ := DataW.trod_array Try.underlying88 hy
    have g0 := hx' 0 (by omega)
    have g1 := hx' 1 (by omega)
    rw [List.getElem?_eq_getElem (by omega), cu] at g0 g1
    obtain ⟨m0, f0, -, s0⟩ := DataW.trod_int Try.underlying5 g0
    obtain ⟨m1, f1, -, s1⟩ := DataW.trod_int Try.underlying5 g1
    have s0 := int_of_wf s0
    have s1 := int_of_wf s1
    rw [e1, e2] at s0 s1
    obtain ⟨m0, rfl, t0⟩ := nat_of s0
    obtain ⟨m1, rfl, t1⟩ := nat_of s1
    refine ⟨(m0, m1), ?_, t0, t1⟩
    match x, hxl with
    | [x0, x1], _ => simp_all
  rw [List.length_map] at b1 b2 b3 q1 q2 q3
  refine ⟨⟨N, ks, zs, ps, a1, a2, a3, c1, c2, c3⟩, ?_, hN, q1, hks, ?_, hzs, q3, hps⟩
  · have := lst4 hl b0 b1 b2 b3
    show Value.agg cs = Value.agg _
    congr 1
    exact Array.toList_inj.1 this
  · obtain ⟨a, c, hv, h1, h2, h3⟩ := q2
    rw [List.length_map] at hv h1
    have hlu : (u8C zs).length = zs.length := by unfold u8C; rw [List.length_map]
    refine ⟨a, c, by rw [hlu]; exact hv, by rw [hlu]; exact h1, h2, fun hne => ?_⟩
    obtain ⟨g, off, rfl, hc⟩ := h3 (fun e => hne (by unfold u8C; rw [List.map_eq_nil_iff] at e ⊢; exact e))
    have key : ∀ j u, (u8C zs)[j]? = some u → w.cell? ⟨g, off + j, none⟩ = some u := fun j u hu => by
      unfold u8C at hu
      rw [List.getElem?_map, Option.map_eq_some_iff] at hu
      obtain ⟨z, hz, rfl⟩ := hu
      have := hc j 0 [.int .u8 (z : Int)] (.int .u8 (z : Int)) (by rw [List.getElem?_map, hz]; rfl) rfl
      rwa [Nat.mul_one, Nat.add_zero] at this
    obtain ⟨u, hu⟩ : ∃ u, (u8C zs)[0]? = some u := by
      cases hz : u8C zs with
      | nil => exact absurd hz hne
      | cons a l => exact ⟨a, rfl⟩
    exact ⟨g, off, rfl, World.block_lt_of_cell? w _ (key 0 u hu), key⟩
end Go.Proofs.Ythiiehanlconeaa
