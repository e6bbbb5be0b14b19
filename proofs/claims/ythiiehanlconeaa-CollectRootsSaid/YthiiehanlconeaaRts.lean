/-
  collect.Roots.
-/
import Derived.Test.YthiiehanlconeaaFra
import Derived.Test.YthiiehanlconeaaSee
import Derived.Test.YthiiehanlconeaaFrs
import Derived.Test.YthiiehanlconeaaMkg
import Derived.Test.YthiiehanlconeaaGrh
namespace Go.Proofs.Ythiiehanlconeaa
open Go.RowKit
set_option linter.unusedVariables false
set_option linter.unusedSimpArgs false

def rootsL (hp : Hp) (frames : List Frm) (jobs : List Job) : List Int := ([hp.global, hp.texts] ++ hp.protos ++ framesM frames) ++ jobs.flatMap fun j => refsV j.values
def ddS (out : List Int) (o : Int) : List Int := if o = 0 ∨ o ∈ out then out else out ++ [o]
def dedupe (l : List Int) : List Int := l.foldl ddS []
theorem jobs_take {jobs : List Job} {k : Nat} (h : k < jobs.length) : (jobs.take (k + 1)).flatMap (fun j => refsV j.values) = (jobs.take k).flatMap (fun j => refsV j.values) ++ refsV jobs[k].values := by
  rw [List.take_succ_eq_append_getElem h, List.flatMap_append]; simp
theorem dd_take {l : List Int} {k : Nat} (h : k < l.length) : dedupe (l.take (k + 1)) = ddS (dedupe (l.take k)) l[k] := by
  unfold dedupe
  rw [List.take_succ_eq_append_getElem h, List.foldl_append]; rfl
theorem dd_len : ∀ (l : List Int) (out : List Int), (l.foldl ddS out).length ≤ out.length + l.length
  | [], out => by simp
  | a :: l, out => by
    have := dd_len l (ddS out a)
    have h2 : (ddS out a).length ≤ out.length + 1 := by unfold ddS; split <;> simp
    rw [List.foldl_cons, List.length_cons]; omega
theorem jobsRefs_len : ∀ l : List Job, (∀ j ∈ l, j.values.length ≤ 100) → (l.flatMap fun j => refsV j.values).length ≤ l.length * 100
  | [], _ => by simp
  | a :: l, h => by
    have h1 := jobsRefs_len l fun j hj => h j (by simp [hj])
    have h2 := refsV_len a.values
    have h3 := h a (by simp)
    rw [List.flatMap_cons, List.length_append, List.length_cons]; omega
theorem protoRow {w : World} {b o : Nat} {hp : Hp} {F : List Nat} (H : Here hpR w b o hp F) : ∃ a cap, w.cell? ⟨b, o + 7, none⟩ = some (.slice a hp.protos.length cap) ∧ RowAt w 3 1 (.slice a hp.protos.length cap) hp.protos.length (intC hp.protos) := by
  obtain ⟨cs, ⟨v1, v2, v3, F1, F2, F3, rfl, h1, h2, h3, -⟩, hc⟩ := H.cell
  obtain ⟨v', e, hr, -⟩ := row_flat.1 h3
  obtain rfl : v3 = v' := by simpa using e
  rw [flatMap_one] at hr
  have hr' : RowAt w 3 1 v3 hp.protos.length (intC hp.protos) := hr
  obtain ⟨a, cap, rfl, -⟩ := hr'.slice
  exact ⟨a, cap, hc 7 _ rfl, hr'⟩
set_option maxHeartbeats 6400000 in
set_option maxRecDepth 100000 in
theorem roots_any (w : World) (bh bs bj : Nat) (hp : Hp) (Fh : List Nat) (frames : List Frm) (Fs : List Nat) (jobs : List Job) (Fj : List Nat) (HH : Here hpR w bh 0 hp Fh) (HS : Here (frmR.row 101) w bs 0 frames Fs) (HJ : Here (jobR.row 69) w bj 0 jobs Fj)
    (hpl : hp.protos.length ≤ 100) (hfl : frames.length ≤ 100) (hfo : ∀ f ∈ frames, FrmOk f) (hjl : jobs.length ≤ 100) (hjo : ∀ j ∈ jobs, j.values.length ≤ 100) (hin : ∀ r ∈ rootsL hp frames jobs, -9223372036854775808 ≤ r ∧ r ≤ 9223372036854775807) :
    Calls Try.prog 20 #[.pointer (some ⟨bh, 0, none⟩), .pointer (some ⟨bs, 0, none⟩), .pointer (some ⟨bj, 0, none⟩)] w fun e w' => ∃ v', e = .returned v' ∧ OutI w w' v' (dedupe (rootsL hp frames jobs)) := by
  obtain ⟨-, -, -, -, -, c5, c6, -⟩ := hpCells HH
  obtain ⟨ap, kp, c7, hpr⟩ := protoRow HH
  rw [Nat.zero_add] at c5 c6 c7
  obtain ⟨vs, xs1, Gs1, s0, ops⟩ := HS.openRow
  obtain ⟨vj, xs2, Gs2, j0, opj⟩ := HJ.openRow
  have hrj : Row jobR 69 w vj jobs Fj := ⟨opj.own, HJ.nd⟩
  obtain ⟨aj, kj, rfl, -, -⟩ := hrj.val
  have HPR := Lib.hid hpr
  have HPL := Lib.hid hpl
  have HFL := Lib.hid hfl
  have HFO := Lib.hid hfo
  have HJL := Lib.hid hjl
  have HJO := Lib.hid hjo
  have HIN := Lib.hid hin
  have HFR := Lib.hid ops.own
  have HJR := Lib.hid hrj
  have HC0 := Lib.hid s0
  have HC1 := Lib.hid j0
  have jl : (jobs.length : Int) ≤ 100 := by omega
  have HS0 : Hid (w.cell? ⟨bh, 5, none⟩ = some (.int .i64 hp.global) ∧ w.cell? ⟨bh, 6, none⟩ = some (.int .i64 hp.texts) ∧ w.cell? ⟨bh, 7, none⟩ = some (.slice ap hp.protos.length kp)) := Lib.hid ⟨c5, c6, c7⟩
  have hmm := @run_makeMap Try.prog
  clear HH HS HJ hpl hfl hfo hjl hjo hin c5 c6 c7 hpr s0 j0 ops opj hrj
  go_enter Try.func20, Try.ntmps20
  go_upto_region 1 with fail
  refine wp_region_held_split 13 (fun w' => w'.cell? ⟨bh, 5, none⟩ = some (.int .i64 hp.global) ∧ w'.cell? ⟨bh, 6, none⟩ = some (.int .i64 hp.texts) ∧ w'.cell? ⟨bh, 7, none⟩ = some (.slice ap hp.protos.length kp)) (by kernel_rfl) (by kernel_rfl) ?_ (fun hHeld => ?_)
  · (first | exact HS0.out | exact HKS.out _ (Chg.refl _ _) | exact HKS.out _ (Chg.alloc _ _ _))
  simp only [List.take_succ_cons, List.take_zero]
  have HKS : Hid (∀ W, Chg (fun _ => False) w.drew W → W.cell? ⟨bh, 5, none⟩ = some (.int .i64 hp.global) ∧ W.cell? ⟨bh, 6, none⟩ = some (.int .i64 hp.texts) ∧ W.cell? ⟨bh, 7, none⟩ = some (.slice ap hp.protos.length kp)) := Lib.hid (fun W hc => ⟨hc.cell HS0.out.1, hc.cell HS0.out.2.1, hc.cell HS0.out.2.2⟩)
  have HWD : Hid (Chg (fun _ => False) w w.drew) := Lib.hid (Chg.refl _ w).drewR
  generalize w.drew = wD at *
  refine wpAnyH_take (i := 0) (v := ?_) rfl (by kernel_rfl) (by kernel_rfl) (by kernel_rfl) (fun _ _ _ h => h) (Or.inl ⟨by rfl, ?_⟩) (by assumption) ?_
  rotate_left
  · (intro wq hSw; (try dsimp only at hSw); go_simp; (try with_reducible rfl))
  simp only [Act.put, List.getElem_toArray, List.getElem_cons_zero, List.getElem_cons_succ, List.setIfInBounds_toArray, List.set_cons_zero, List.set_cons_succ]
  refine wpAnyH_take (i := 1) (v := ?_) rfl (by kernel_rfl) (by kernel_rfl) (by kernel_rfl) (fun _ _ _ h => h) (Or.inl ⟨by rfl, ?_⟩) (by assumption) ?_
  rotate_left
  · (intro wq hSw; (try dsimp only at hSw); go_simp; (try with_reducible rfl))
  simp only [Act.put, List.getElem_toArray, List.getElem_cons_zero, List.getElem_cons_succ, List.setIfInBounds_toArray, List.set_cons_zero, List.set_cons_succ]
  refine wpAnyH_take (i := 2) (v := ?_) rfl (by kernel_rfl) (by kernel_rfl) (by kernel_rfl) (fun _ _ _ h => h) (Or.inl ⟨by rfl, ?_⟩) (by assumption) ?_
  rotate_left
  · (intro wq hSw; (try dsimp only at hSw); go_simp; (try with_reducible rfl))
  simp only [Act.put, List.getElem_toArray, List.getElem_cons_zero, List.getElem_cons_succ, List.setIfInBounds_toArray, List.set_cons_zero, List.set_cons_succ]
  refine wpAnyH_take (i := 3) (v := ?_) rfl (by kernel_rfl) (by kernel_rfl) (by kernel_rfl) (fun _ _ _ h => h) (Or.inl ⟨by rfl, ?_⟩) (by assumption) ?_
  rotate_left
  · (intro wq hSw; (try dsimp only at hSw); go_simp; (try with_reducible rfl))
  simp only [Act.put, List.getElem_toArray, List.getElem_cons_zero, List.getElem_cons_succ, List.setIfInBounds_toArray, List.set_cons_zero, List.set_cons_succ]
  refine wpAnyH_take (i := 4) (v := ?_) rfl (by kernel_rfl) (by kernel_rfl) (by kernel_rfl) (fun _ _ _ h => h) (Or.inl ⟨by rfl, ?_⟩) (by assumption) ?_
  rotate_left
  · (intro wq hSw; (try dsimp only at hSw); go_simp; (try with_reducible rfl))
  simp only [Act.put, List.getElem_toArray, List.getElem_cons_zero, List.getElem_cons_succ, List.setIfInBounds_toArray, List.set_cons_zero, List.set_cons_succ]
  refine wpAnyH_take (i := 5) (v := ?_) rfl (by kernel_rfl) (by kernel_rfl) (by kernel_rfl) (fun _ _ _ h => h) (Or.inl ⟨by rfl, ?_⟩) (by assumption) ?_
  rotate_left
  · (intro wq hSw; (try dsimp only at hSw); go_simp; (try with_reducible rfl))
  simp only [Act.put, List.getElem_toArray, List.getElem_cons_zero, List.getElem_cons_succ, List.setIfInBounds_toArray, List.set_cons_zero, List.set_cons_succ]
  refine wpAnyH_take (i := 6) (v := ?_) rfl (by kernel_rfl) (by kernel_rfl) (by kernel_rfl) (fun _ _ _ h => h) (Or.inl ⟨by rfl, ?_⟩) (by assumption) ?_
  rotate_left
  · (intro wq hSw; (try dsimp only at hSw); go_simp; (try with_reducible rfl))
  simp only [Act.put, List.getElem_toArray, List.getElem_cons_zero, List.getElem_cons_succ, List.setIfInBounds_toArray, List.set_cons_zero, List.set_cons_succ]
  refine wpAnyH_take (i := 7) (v := ?_) rfl (by kernel_rfl) (by kernel_rfl) (by kernel_rfl) (fun _ _ _ h => h) (Or.inl ⟨by rfl, ?_⟩) (by assumption) ?_
  rotate_left
  · (intro wq hSw; (try dsimp only at hSw); go_simp; (try with_reducible rfl))
  simp only [Act.put, List.getElem_toArray, List.getElem_cons_zero, List.getElem_cons_succ, List.setIfInBounds_toArray, List.set_cons_zero, List.set_cons_succ]
  refine wpAnyH_take (i := 9) (v := ?_) rfl (by kernel_rfl) (by kernel_rfl) (by kernel_rfl) (fun _ _ _ h => h) (Or.inl ⟨by rfl, ?_⟩) (by assumption) ?_
  rotate_left
  · (intro wq hSw; (try dsimp only at hSw); go_simp; (try with_reducible rfl))
  simp only [Act.put, List.getElem_toArray, List.getElem_cons_zero, List.getElem_cons_succ, List.setIfInBounds_toArray, List.set_cons_zero, List.set_cons_succ]
  refine wpAnyH_take (i := 10) (v := ?_) rfl (by kernel_rfl) (by kernel_rfl) (by kernel_rfl) (fun _ _ _ h => h) (Or.inl ⟨by rfl, ?_⟩) (by assumption) ?_
  rotate_left
  · (intro wq hSw; (try dsimp only at hSw); go_simp; (try with_reducible rfl))
  simp only [Act.put, List.getElem_toArray, List.getElem_cons_zero, List.getElem_cons_succ, List.setIfInBounds_toArray, List.set_cons_zero, List.set_cons_succ]
  refine wpAnyH_take (i := 11) (v := ?_) rfl (by kernel_rfl) (by kernel_rfl) (by kernel_rfl) (fun _ _ _ h => h) (Or.inl ⟨by rfl, ?_⟩) (by assumption) ?_
  rotate_left
  · (intro wq hSw; (try dsimp only at hSw); go_simp; (try with_reducible rfl))
  simp only [Act.put, List.getElem_toArray, List.getElem_cons_zero, List.getElem_cons_succ, List.setIfInBounds_toArray, List.set_cons_zero, List.set_cons_succ]
  refine wpAnyH_take (i := 12) (v := ?_) rfl (by kernel_rfl) (by kernel_rfl) (by kernel_rfl) (fun _ _ _ h => h) (Or.inl ⟨by rfl, ?_⟩) (by assumption) ?_
  rotate_left
  · (intro wq hSw; (try dsimp only at hSw); go_simp; (try with_reducible rfl))
  simp only [Act.put, List.getElem_toArray, List.getElem_cons_zero, List.getElem_cons_succ, List.setIfInBounds_toArray, List.set_cons_zero, List.set_cons_succ]
  refine wpAnyH_ready (rs := [8]) (by kernel_rfl) (by simp) ?_
  refine AllReadyH.cons (by simp only [List.getElem?_toArray, List.getElem?_cons_succ, List.getElem?_cons_zero]; rfl) (fun K hK => ?_) AllReadyH.nil
  go_simp
  refine hK.out _ _ ?_ (fun hHeld => ?_)
  · (first | exact HS0.out | exact HKS.out _ (Chg.refl _ _) | exact HKS.out _ (Chg.alloc _ _ _))
  clear hK K
  (try simp only [Act.put, List.getElem_toArray, List.getElem_cons_zero, List.getElem_cons_succ, List.setIfInBounds_toArray, List.set_cons_zero, List.set_cons_succ])
  refine wpAnyH_done (by kernel_rfl) ?_ _
  change wpList _ _ _ _ _ _
  simp only [List.drop_succ_cons, List.drop_zero]
  have HO0 : Hid (OutI w (wD.alloc (.cells #[.int .i64 hp.global, .int .i64 hp.texts] 3)) (.slice (some ⟨wD.heap.size, 0, none⟩) 2 2) [hp.global, hp.texts]) := Lib.hid ⟨RowAt.lit [.int .i64 hp.global, .int .i64 hp.texts] rfl (by simp [maxLen]), fun k hk => by (have e : k = wD.heap.size := by simpa [Value.ownBlock] using hk.symm); have := HWD.out.size; omega, HWD.out.allocR _⟩
  have HP1 := Lib.hid (HPR.out.chg (HWD.out.allocR (.cells #[.int .i64 hp.global, .int .i64 hp.texts] 3)) (fun _ _ x => x))
  go_upto_region 2 with (at_builtin; refine wpList_out rfl (.tmp 22) (.tmp 26) rfl _ [hp.global, hp.texts] rfl HO0.out _ hp.protos rfl HP1.out (⟨by have := HPL.out; simp; omega⟩ : Few _) ?_; intro a1 n1 c1 w1 HO1 hch1 _)
  clear HO0 HP1 HS0 HKS HPR hch1 hHeld
  have HO1' := Lib.hid HO1
  have s1 := HO1.chg.cell HC0.out
  have HFM := Lib.hid (fun (W : World) (hc : Chg (fun _ => False) w W) => frames_any W vs frames Fs ((frmR.row 101).chg HFR.out hc (fun _ _ x => x)) (by have := HFL.out; omega) HFO.out)
  clear HO1
  go_upto_region 3 with (first
    | (go_at_call 36; refine (HFM.out _ HO1'.out.chg).mono ?_; rintro e w2 ⟨v2, rfl, HO2⟩; have HO3 := HO1'.out.still HO2.chg)
    | (at_builtin; refine wpList_out rfl (.tmp 28) (.tmp 33) rfl _ ([hp.global, hp.texts] ++ hp.protos) rfl HO3 _ (framesM frames) rfl HO2.row (⟨by have := HPL.out; have := framesM_len HFO.out; have := HFL.out; simp only [List.length_append, List.length_cons, List.length_nil]; omega⟩ : Few _) ?_; intro a3 n3 c3 w3 HO4 hch3 _))
  have HL4 := Lib.hid HO4
  have j1 := HO4.chg.cell HC1.out
  clear HO3 HO2 hch3 s1 HFM HO1' HFR HC0
  go_wp2_with fail
  generalize hA : [hp.global, hp.texts] ++ hp.protos ++ framesM frames = A at *
  have HRL : Hid (rootsL hp frames jobs = A ++ jobs.flatMap fun j => refsV j.values) := Lib.hid (by rw [← hA]; rfl)
  have HAL : Hid (A.length ≤ 100000) := Lib.hid (by rw [← hA]; have := HPL.out; have := framesM_len HFO.out; have := HFL.out; simp only [List.length_append, List.length_cons, List.length_nil]; omega)
  clear hA HO4 HFO HFL HPL j1
  go_loopw [7, 9, 40] (fun u7 _ u40 wr => ∃ (k : Nat) (a : Option Addr) (n c : Nat), k ≤ jobs.length ∧ u40 = .int .i64 k ∧ u7 = .slice a n c ∧ Hid (OutI w wr (.slice a n c) (A ++ (jobs.take k).flatMap fun j => refsV j.values))) (fun _ _ u40 _ => jobs.length - (intOf u40).toNat)
  case atStart => exact ⟨0, a3, n3, c3, by omega, rfl, rfl, Lib.hid (by simpa using HL4.out)⟩
  case round =>
    clear HL4
    obtain ⟨k, a, n, c, hk, rfl, rfl, HO⟩ := hrel
    by_cases hlt : k < jobs.length
    · have k0 : (0 : Int) ≤ (k : Int) := by omega
      have k1 : (k : Int) < (jobs.length : Int) := by omega
      have w64 : IntKind.i64.wrap ((k : Int) + 1) = ((k + 1 : Nat) : Int) := IntWalk.i64_in _ (by omega)
      obtain ⟨g, off, cap, hv, cs, G, ho, -, hc⟩ := HJR.out.cell hlt
      cases hv
      rw [show off + k * jobR.n = off + k * 2 from rfl] at hc
      obtain ⟨vv, G', rfl, hown, rfl⟩ := ho
      obtain ⟨pv, kv, rfl⟩ := row_slice hown
      obtain ⟨v', e, hvr, -⟩ := row_flat.1 hown
      obtain rfl : Value.slice pv jobs[k].values.length kv = v' := by simpa using e
      have q0 := HO.out.chg.cell (hc 0 _ rfl)
      have q1 := HO.out.chg.cell (hc 1 _ rfl)
      rw [Nat.add_zero] at q0
      have HT := Lib.hid (jobs_take hlt)
      have HVL := Lib.hid (HJO.out _ (List.getElem_mem hlt))
      have HPK : Hid (((jobs.take k).flatMap fun j => refsV j.values).length ≤ 100 * 100) := Lib.hid (by
        have h1 := jobsRefs_len (jobs.take k) fun j hj => HJO.out j (List.mem_of_mem_take hj)
        have h2 : (jobs.take k).length ≤ 100 := by rw [List.length_take]; have := HJL.out; omega
        omega)
      have HVR := Lib.hid (hvr.chg HO.out.chg (fun _ _ x => x))
      clear hc hown e hvr
      generalize jobs[k] = jb at *
      generalize hE : A ++ (jobs.take k).flatMap (fun j => refsV j.values) = E at *
      have HE := Lib.hid hE
      clear hE
      have HLT := Lib.hid hlt
      have HNX := Lib.hid (show k + 1 ≤ jobs.length from hlt)
      have hb := alloc_block wr (.cells #[.int .i64 jb.kind, .slice pv jb.values.length kv] 69)
      have d1 := cell_of_block (i := 1) hb rfl
      simp only [List.getElem_toArray, List.getElem_cons_zero, List.getElem_cons_succ] at d1
      have HO1 := Lib.hid (HO.out.alloc (.cells #[.int .i64 jb.kind, .slice pv jb.values.length kv] 69))
      have HVA := Lib.hid (values_any (wr.alloc (.cells #[.int .i64 jb.kind, .slice pv jb.values.length kv] 69)) (.slice pv jb.values.length kv) jb.values (HVR.out.alloc _) ⟨by have := HVL.out; omega⟩)
      clear hb hlt HO HVR hk
      go_wp2_with (first
        | (go_at_call 37; refine HVA.out.mono ?_; rintro e w5 ⟨v5, rfl, HO5⟩; have HO6 := HO1.out.still HO5.chg)
        | (at_builtin; refine wpList_out rfl (.tmp 44) (.tmp 47) rfl _ E rfl HO6 _ (refsV jb.values) rfl HO5.row (⟨by have := refsV_len jb.values; have := HVL.out; have := HAL.out; have := HPK.out; rw [← HE.out, List.length_append]; omega⟩ : Few _) ?_; intro a7 n7 c7 w7 HO7 hch7 _))
      go_roundw
      case rel => exact ⟨k + 1, a7, n7, c7, HNX.out, rfl, rfl, Lib.hid (by rw [HT.out, ← List.append_assoc, HE.out]; exact HO7)⟩
      case measure => have := HLT.out; simp [intOf, w64]; omega
    · have hk2 : k = jobs.length := by omega
      subst hk2
      rw [List.take_length, ← HRL.out] at HO
      have HLL : Hid ((rootsL hp frames jobs).length ≤ 200000) := Lib.hid (by
        rw [HRL.out, List.length_append]
        have h1 := jobsRefs_len jobs HJO.out
        have := HJL.out; have := HAL.out; omega)
      clear hlt hk HRL HAL HJR HJO HJL
      generalize hL : rootsL hp frames jobs = L at *
      have HLQ := Lib.hid hL
      clear hL
      obtain ⟨Wm, hrun, hsn, hcm⟩ := (seen_made wr).put (k := 0) (by omega) (by unfold maxLen; omega)
      have HSN := Lib.hid hsn
      have HCW : Hid (Chg (fun _ => False) wr Wm) := Lib.hid ((Chg.alloc (fun _ => False) wr (.map #[] 0)).trans hcm (fun _ _ x => x) (fun i hi x => by omega))
      obtain ⟨al, cl, hv, -, -⟩ := HO.out.val
      cases hv
      clear hsn hcm
      have HLO := Lib.hid HO
      have ll : (L.length : Int) ≤ 200000 := by have := HLL.out; omega
      clear HO
      go_wp2_with fail
      go_loopw [10, 13, 54] (fun u10 _ u54 wx => ∃ (k m : Nat) (S : List Int) (a : Option Addr) (n c : Nat), k ≤ L.length ∧ u54 = .int .i64 k ∧ u10 = .slice a n c ∧ Hid (OutI wr wx (.slice a n c) (dedupe (L.take k))) ∧ Hid (m ≤ k + 1) ∧ Hid (Seen wx wr.heap.size m S) ∧ Hid (∀ o, o ∈ S ↔ o = 0 ∨ o ∈ dedupe (L.take k)) ∧ Hid (¬ (Value.slice a n c).ownBlock = some wr.heap.size)) (fun _ _ u54 _ => L.length - (intOf u54).toNat)
      case atStart => exact ⟨0, 1, [0], none, 0, 0, by omega, rfl, rfl, Lib.hid ⟨RowAt.nil _ _ _, (fun k hk => by simp [Value.ownBlock] at hk), HCW.out⟩, Lib.hid (by omega), HSN, Lib.hid (fun o => by simp [dedupe]), Lib.hid (by simp [Value.ownBlock])⟩
      case round =>
        clear HSN HCW hrun
        rename World => wx
        obtain ⟨k, m, S, a, n, c, hk, rfl, rfl, HO, HM, HSN, HS, HNE⟩ := hrel
        by_cases hlt : k < L.length
        · have k0 : (0 : Int) ≤ (k : Int) := by omega
          have k1 : (k : Int) < (L.length : Int) := by omega
          have w64 : IntKind.i64.wrap ((k : Int) + 1) = ((k + 1 : Nat) : Int) := IntWalk.i64_in _ (by omega)
          obtain ⟨g, off, cap, hv, q0⟩ := HLO.out.at hlt
          cases hv
          have q1 := HO.out.chg.cell q0
          have HT := Lib.hid (dd_take hlt)
          have hin := HIN.out _ (List.getElem_mem hlt)
          have HKL : Hid ((dedupe (L.take k)).length ≤ 200000) := Lib.hid (by have h := dd_len (L.take k) []; rw [List.length_take] at h; have := HLL.out; unfold dedupe; simp only [List.length_nil] at h; omega)
          have HKK : Hid (k ≤ 200000) := Lib.hid (by have := HLL.out; omega)
          clear q0 hk
          generalize L[k] = o at *
          generalize hE : dedupe (L.take k) = E at *
          have HE := Lib.hid hE
          clear hE
          have HLT := Lib.hid hlt
          have HNX := Lib.hid (show k + 1 ≤ L.length from hlt)
          have hlook := HSN.out.look (k := o) hin
          clear hlt
          by_cases hs : o ∈ S
          · rw [decide_eq_true hs] at hlook
            have HD : Hid (dedupe (L.take (k + 1)) = E) := Lib.hid (by rw [HT.out]; unfold ddS; rw [if_pos ((HS.out o).1 hs)])
            clear hs hin
            go_wp2_with fail
            go_roundw
            case rel => exact ⟨k + 1, m, S, a, n, c, HNX.out, rfl, rfl, by rw [HD.out]; exact HO, Lib.hid (by have := HM.out; omega), HSN, by rw [HD.out]; exact HS, HNE⟩
            case measure => have := HLT.out; simp [intOf, w64]; omega
          · rw [decide_eq_false hs] at hlook
            have HD : Hid (dedupe (L.take (k + 1)) = E ++ [o]) := Lib.hid (by rw [HT.out]; unfold ddS; rw [if_neg (fun x => hs ((HS.out o).2 x))])
            obtain ⟨W2, hrun2, hsn2, hch2⟩ := HSN.out.put (k := o) hin (by have := HM.out; have := HKK.out; unfold maxLen; omega)
            have HO2 := Lib.hid ((HO.out.other hch2 (fun j hj e => HNE.out (e ▸ hj)) (fun j hj e => by omega)).alloc (.cells #[.int .i64 o] 3))
            have HSN2 := Lib.hid (hsn2.kept (Chg.alloc (fun _ => False) W2 (.cells #[.int .i64 o] 3)) (fun x => x))
            have HS2 : Hid (∀ x, x ∈ o :: S ↔ x = 0 ∨ x ∈ E ++ [o]) := Lib.hid (fun x => by
              rw [List.mem_cons, List.mem_append, List.mem_singleton, HS.out x]
              constructor
              · rintro (h | h | h)
                · exact .inr (.inr h)
                · exact .inl h
                · exact .inr (.inl h)
              · rintro (h | h | h)
                · exact .inr (.inl h)
                · exact .inr (.inr h)
                · exact .inl h)
            clear hs hin hsn2 hch2
            go_wp2_with (at_builtin; refine wpList_out rfl (.tmp 64) (.tmp 66) rfl _ E rfl HO2.out _ [o] rfl (RowAt.lit [.int .i64 o] rfl (by simp [maxLen])) (⟨by have := HKL.out; simp only [List.length_cons, List.length_nil]; omega⟩ : Few _) ?_; intro a7 n7 c7 w7 HO7 hch7 hold7)
            go_roundw
            case rel =>
              refine ⟨k + 1, m + 1, o :: S, a7, n7, c7, HNX.out, rfl, rfl, Lib.hid (by rw [HD.out]; exact HO7), Lib.hid (by have := HM.out; omega), Lib.hid (HSN2.out.kept hch7 HNE.out), by rw [HD.out]; exact HS2, Lib.hid (fun hj => ?_)⟩
              rcases hold7 _ hj with x | x
              · exact HNE.out x
              · have := HSN2.out.lt; omega
            case measure => have := HLT.out; simp [intOf, w64]; omega
        · have hk2 : k = L.length := by omega
          subst hk2
          rw [List.take_length] at HO
          clear hlt hk
          go_wp2_with fail
          go_ret
          rw [HLQ.out]
          exact ⟨.slice a n c, rfl, ⟨HO.out.row, fun j hj => Nat.le_trans HLO.out.chg.size (HO.out.lo j hj), HLO.out.chg.trans' HO.out.chg⟩⟩
end Go.Proofs.Ythiiehanlconeaa
