/-
  CollectWeak: the walk.
-/
import Derived.Test.YthiiehanlconeaaDoorWkl
import Derived.Test.YthiiehanlconeaaDoorAwk
import Derived.Test.YthiiehanlconeaaDoorHnd
namespace Go.Proofs.YthiiehanlconeaaDoor
open Go.RowKit
set_option linter.unusedVariables false
set_option linter.unusedSimpArgs false

def lsW (k : Nat) : List Int := (List.range k).map fun q => hW (13 + q)
theorem lsW_len (k : Nat) : (lsW k).length = k := by simp [lsW]
theorem lsW_get (k q : Nat) (h : q < k) {hh : q < (lsW k).length} : (lsW k)[q] = hW (13 + q) := by simp [lsW]
theorem lsW_succ (k : Nat) : lsW (k + 1) = lsW k ++ [hW (13 + k)] := by simp [lsW, List.range_succ]
theorem map_h {hp : Hp} (h1 : hp.base = 6) (h2 : hp.stride = 6) (R : List Nat) : (R.map fun i : Nat => handleM hp.base hp.stride (i : Nat)) = R.map fun r => hW r := by rw [h1, h2]; rfl
theorem in_take {x y : Int} {l : List Int} {k : Nat} {b : Bool} (hk : k < l.length) (hx : l[k] = y) (h : b = decide (x ∈ l.take k)) : (b || (y == x)) = decide (x ∈ l.take (k + 1)) := by
  rw [List.take_succ_eq_append_getElem hk, hx, h, Bool.eq_iff_iff]
  simp only [Bool.or_eq_true, decide_eq_true_eq, beq_iff_eq, List.mem_append, List.mem_singleton]
  constructor
  · rintro (a | a)
    · exact .inl a
    · exact .inr a.symm
  · rintro (a | a)
    · exact .inl a
    · exact .inr a.symm
set_option maxHeartbeats 25600000 in
set_option maxRecDepth 100000 in
theorem collectWeak_walk (nb : Nat) (way : List Nat) (vw : Value) (w : World) (hb : nb < 256) (hw : ∀ x ∈ way, x < 256) (hwl : way.length ≤ 9223372036854775807) (hr : ArgRow w vw (u8C way)) :
    Calls Tryd.prog 3 #[.int .u8 (nb : Int), vw] w fun e w' => e = .returned (.bool true) ∧ Below w.heap.size w w' := by
  have HAW := Lib.hid awake_any
  have HNW := Lib.hid (fun W => new_any 6 6 W)
  obtain ⟨aw, cw, rfl⟩ : ∃ a c, vw = .slice a way.length c := by
    obtain ⟨a, c, e, -⟩ := hr
    rw [u8C_len] at e
    exact ⟨a, c, e⟩
  have HWC := Lib.hid hr
  have HWB := Lib.hid hw
  have wl64 : (way.length : Int) ≤ 9223372036854775807 := by omega
  clear hr hw
  by_cases h12 : ¬ way.length ≤ 12
  · have wl : (12 : Int) < (way.length : Int) := by omega
    go_enter Tryd.func3, Tryd.ntmps3
    go_wp2_with (go_at_call 5; refine (HAW.out _).mono ?_; rintro e w0 ⟨rfl, hc0⟩)
    rename Chg (fun _ => False) w _ => hcA
    go_ret
    exact ⟨rfl, (hcA.trans' hc0).below (Nat.le_refl _) (fun _ h => h.elim)⟩
  have h12' : way.length ≤ 12 := by omega
  have HWL := Lib.hid h12'
  have wl : ¬ (12 : Int) < (way.length : Int) := by omega
  clear h12 h12' hwl
  obtain ⟨n, hn, hn0⟩ : ∃ n : Nat, n = 1 + nb % 10 ∧ n ≤ 10 := ⟨_, rfl, by omega⟩
  have HN : Hid (n ≤ 20 ∧ 1 ≤ n) := Lib.hid (by omega)
  have b0 : (0 : Int) ≤ (nb : Int) := by omega
  have wn0 : IntKind.i64.wrap ((nb : Int) % 10) = (nb : Int) % 10 := IntWalk.i64_in _ (by omega)
  have wn1 : IntKind.i64.wrap (1 + (nb : Int) % 10) = (n : Int) := by rw [show (1 + (nb : Int) % 10) = (n : Int) by omega]; exact IntWalk.i64_in _ (by omega)
  have n10 : (n : Int) ≤ 10 := by omega
  have n1 : (1 : Int) ≤ (n : Int) := by omega
  clear hn hn0
  go_enter Tryd.func3, Tryd.ntmps3
  go_upto_region 4 with (first
    | (go_at_call 5; refine (HAW.out _).mono ?_; rintro e w0 ⟨rfl, hc0⟩)
    | (go_at_call 6; refine (HNW.out _).mono ?_; rintro e w1 ⟨cs, F, rfl, hown, hnd, hlo, hch⟩; have hown' := hown; obtain ⟨v1, v2, v3, F1, F2, F3, rfl, o1, o2, o3, -⟩ := hown'; obtain ⟨x1, y1, p1⟩ := Rep.opened o1; obtain ⟨n1, m1, rfl, -⟩ := p1.val; obtain ⟨x2, y2, p2⟩ := Rep.opened o2; obtain ⟨n2, m2, rfl, -⟩ := p2.val; obtain ⟨x3, y3, p3⟩ := Rep.opened o3; obtain ⟨n3, m3, rfl, -⟩ := p3.val; clear o1 o2 o3 p1 p2 p3))
  have hch' := hc0.trans' hch
  have HO := Lib.hid (show Own hpR w (w1.alloc (.cells _ 31)) w1.heap.size 0 (newM 6 6) F from ⟨Here.made w1 31 _ (newM 6 6) F hown hnd, hch'.allocR _, hch'.size, fun k hk => by have := hlo k hk; have := hc0.size; omega⟩)
  clear HNW hown hnd hlo hch hch' hc0
  generalize w1.alloc (.cells #[.int .i64 (newM 6 6).base, .int .i64 (newM 6 6).stride, .slice n1 (newM 6 6).slots.length m1, .slice n2 (newM 6 6).free.length m2, .int .i64 (newM 6 6).live, .int .i64 (newM 6 6).global, .int .i64 (newM 6 6).texts, .slice n3 (newM 6 6).protos.length m3] 31) = W2 at *
  generalize w1.heap.size = bh at *
  have HMK := Lib.hid (make_any W2 bh (newM 6 6) F 5 HO.out.here rfl rfl (by show 12 < 100000; omega) rfl (by omega))
  go_upto_region 5 with (go_at_call 7; refine HMK.out.mono ?_; rintro e W3 ⟨rfl, hA⟩)
  obtain ⟨F3, HO3⟩ := hA.post.own HO.out
  have HH0 := Lib.hid (HL.of HO3)
  have HWH0 := Lib.hid wh_begin
  rw [show handleM (newM 6 6).base (newM 6 6).stride ((newM 6 6).slots.length : Nat) = hW 12 from rfl]
  clear HMK hA HO HO3
  generalize addedM (newM 6 6) ⟨true, newObj ((5 : Nat) : Int) ((newM 6 6).protos.getD 5 0)⟩ = hp0 at *
  go_wp2_with fail
  go_loopw [9, 10, 11, 12] (fun u9 u10 _ _ wr => ∃ (i : Nat) (a : Option Addr) (nn c : Nat) (hp : Hp) (F : List Nat), i ≤ n + 1 ∧ u10 = .int .i64 i ∧ u9 = .slice a nn c ∧ Hid (WH i [] hp) ∧ Hid (HL w wr bh hp (.slice a nn c) (lsW i) F)) (fun _ u10 _ _ _ => n + 1 - (intOf u10).toNat)
  case atStart => exact ⟨0, none, 0, 0, hp0, F3, by omega, rfl, rfl, HWH0, HH0⟩
  case round =>
    clear HWH0 HH0
    obtain ⟨i, al, ml, cl, hp, F, hi, rfl, rfl, HWH, HH⟩ := hrel
    by_cases hlt : i < n + 1
    · have i0 : (0 : Int) ≤ (i : Int) := by omega
      have i1 : (i : Int) ≤ (n : Int) := by omega
      have w64 : IntKind.i64.wrap ((i : Int) + 1) = ((i + 1 : Nat) : Int) := IntWalk.i64_in _ (by omega)
      have HLT := Lib.hid hlt
      have HNX := Lib.hid (show i + 1 ≤ n + 1 from hlt)
      have hmk0 := make_any wr bh hp F 0 HH.out.heap.here HWH.out.free (by rw [HWH.out.live, HWH.out.len]) (by rw [HWH.out.len]; have := HN.out; omega) (by rw [HWH.out.prot]; rfl) (by omega)
      rw [HWH.out.len, HWH.out.base, HWH.out.stride, show handleM 6 6 ((13 + i : Nat) : Int) = hW (13 + i) from rfl, show ((0 : Nat) : Int) = 0 from rfl] at hmk0
      have HMK := Lib.hid hmk0
      clear hmk0 hi hlt
      go_upto_region 11 with (go_at_call 7; refine HMK.out.mono ?_; rintro e Wm ⟨rfl, hA⟩)
      obtain ⟨Fm, hrm⟩ := HH.out.heapS hA.post
      have HRM := Lib.hid hrm
      have HWM := Lib.hid HWH.out.more
      rw [show ((0 : Nat) : Int) = 0 from rfl] at HWM
      clear hA hrm HMK HH HWH
      generalize addedM hp ⟨true, newObj 0 (hp.protos.getD 0 0)⟩ = hp' at *
      have HO5 := Lib.hid (HRM.out.li.alloc (.cells #[.int .i64 (hW (13 + i))] 3))
      go_wp2_with (at_builtin; refine wpList_out rfl (.tmp 51) (.tmp 53) rfl _ (lsW i) rfl HO5.out _ [hW (13 + i)] rfl (RowAt.lit [.int .i64 (hW (13 + i))] rfl (by simp [maxLen])) (⟨by rw [lsW_len]; have := HN.out; have := HLT.out; simp; omega⟩ : Few _) ?_; intro a2 n2 c2 wl HO6 hch2 hold2)
      have hrs := (HRM.out.still (Chg.alloc (fun _ => False) Wm (.cells #[.int .i64 (hW (13 + i))] 3))).liS hch2 HO6 hold2
      rw [← lsW_succ] at hrs
      go_roundw
      case rel => exact ⟨i + 1, a2, n2, c2, hp', Fm, HNX.out, rfl, rfl, HWM, Lib.hid hrs⟩
      case measure => have := HLT.out; simp [intOf, w64]; omega
    · have hi2 : i = n + 1 := by omega
      subst hi2
      clear hlt hi
      obtain ⟨ax, cx, hv, -, -⟩ := HH.out.li.val
      rw [lsW_len] at hv
      cases hv
      have hend : ¬ ((n + 1 : Nat) : Int) ≤ (n : Int) := by omega
      obtain ⟨wo, rfl⟩ : ∃ wo : World, wo = wr := ⟨_, rfl⟩
      go_wp2_with fail
      clear hend
      go_loopw [13, 14] (fun u13 _ wr => ∃ (j : Nat) (hp : Hp) (K F : List Nat), j ≤ way.length ∧ u13 = .int .i64 j ∧ Hid (WH (n + 1) K hp) ∧ Hid (∀ x ∈ K, x < n) ∧ Hid (K.length ≤ j) ∧ Hid (HL w wr bh hp (.slice al (n + 1) cl) (lsW (n + 1)) F)) (fun u13 _ _ => way.length - (intOf u13).toNat)
      case atStart => exact ⟨0, hp, [], F, by omega, rfl, HWH, Lib.hid (by simp), Lib.hid (by simp), HH⟩
      case round =>
        clear HWH HH
        clear hp F
        rename World => wr
        obtain ⟨j, hp, K, F, hj, rfl, HWH, HK, HKL, HH⟩ := hrel
        by_cases hlt : j < way.length
        · have j0 : (0 : Int) ≤ (j : Int) := by omega
          have j1 : (j : Int) < (way.length : Int) := by omega
          have w64 : IntKind.i64.wrap ((j : Int) + 1) = ((j + 1 : Nat) : Int) := IntWalk.i64_in _ (by have := HWL.out; omega)
          have HLT := Lib.hid hlt
          have HNX := Lib.hid (show j + 1 ≤ way.length from hlt)
          obtain ⟨gw, ow, cw', hv, hcw⟩ := argU8 HWC.out hlt
          cases hv
          have cw0 := HH.out.heap.chg.cell hcw
          have hx := HWB.out way[j] (List.getElem_mem hlt)
          generalize way[j] = x at *
          obtain ⟨q, hq⟩ : ∃ q, q = x % n := ⟨_, rfl⟩
          have hqn : q < n := by rw [hq]; exact Nat.mod_lt _ (by have := HN.out; omega)
          have HQ := Lib.hid hqn
          have x0 : (0 : Int) ≤ (x : Int) := by omega
          have wx : IntKind.i64.wrap (x : Int) = (x : Int) := IntWalk.i64_in _ (by omega)
          have tx : ((x : Int)).tmod (n : Int) = (q : Int) := by rw [hq]; exact tmod_nat x n
          have tx2 : (x : Int) % (n : Int) = (q : Int) := by rw [hq]; omega
          have z0 : ((n : Int) == 0) = false := beq_false_of_ne (by omega)
          have z2 : ¬ (n : Int) = 0 := by omega
          clear hq hcw hj hlt
          go_upto_region 16 with fail
          clear cw0 wx tx tx2 z0 z2 x0
          have hLl : (lsW (n + 1)).length = n + 1 := lsW_len _
          obtain ⟨gl, ol, cl', hv, p0⟩ := HH.out.li.at (k := q) (by rw [hLl]; omega)
          rw [hLl] at hv
          cases hv
          obtain ⟨gl', ol', cl2, hv, p1⟩ := HH.out.li.at (k := q + 1) (by rw [hLl]; omega)
          rw [hLl] at hv
          cases hv
          rw [lsW_get _ _ (by omega)] at p0
          rw [lsW_get _ _ (by omega)] at p1
          have HS0 : Hid (wr.cell? ⟨gl, ol + q, none⟩ = some (.int .i64 (hW (13 + q))) ∧ wr.cell? ⟨gl, ol + (q + 1), none⟩ = some (.int .i64 (hW (13 + (q + 1))))) := Lib.hid ⟨p0, p1⟩
          have q0 : (0 : Int) ≤ (q : Int) := by omega
          have q1 : (q : Int) < ((n + 1 : Nat) : Int) := by have := HQ.out; omega
          have q1' : (q : Int) < (n : Int) + 1 := by have := HQ.out; omega
          have q2 : (q : Int) < (n : Int) := by have := HQ.out; omega
          have q3 : (0 : Int) ≤ (q : Int) + 1 := by omega
          have q4 : (q : Int) + 1 < (n : Int) + 1 := by have := HQ.out; omega
          have wq : IntKind.i64.wrap ((q : Int) + 1) = ((q + 1 : Nat) : Int) := IntWalk.i64_in _ (by omega)
          have HRF := Lib.hid (fun (h : Int) (W : World) => vref_any h W)
          have HMS := Lib.hid (fun (W : World) (hc : Chg (fun _ => False) wr W) => mset_step w W bh (.slice (some ⟨gl, ol, none⟩) (n + 1) cl) (lsW (n + 1)) F q (HH.out.still hc) HWH.out HN.out.1 HK.out (by have := HKL.out; have := HN.out; have := HWL.out; omega) HQ.out)
          rw [show 14 + q = 13 + (q + 1) by omega] at HMS
          clear p0 p1 hLl
          go_upto_region 16 with fail
          refine wp_region_held_split 12 (fun w' => w'.cell? ⟨gl, ol + q, none⟩ = some (.int .i64 (hW (13 + q))) ∧ w'.cell? ⟨gl, ol + (q + 1), none⟩ = some (.int .i64 (hW (13 + (q + 1))))) (by kernel_rfl) (by kernel_rfl) ?_ (fun hHeld => ?_)
          · (first | exact HS0.out | exact HKS.out _ HCC.out)
          simp only [List.take_succ_cons, List.take_zero]
          have HKS : Hid (∀ W, Chg (fun _ => False) wr.drew W → W.cell? ⟨gl, ol + q, none⟩ = some (.int .i64 (hW (13 + q))) ∧ W.cell? ⟨gl, ol + (q + 1), none⟩ = some (.int .i64 (hW (13 + (q + 1))))) := Lib.hid (fun W hc => ⟨hc.cell HS0.out.1, hc.cell HS0.out.2⟩)
          have HWD : Hid (Chg (fun _ => False) wr wr.drew) := Lib.hid (Chg.refl _ wr).drewR
          generalize wr.drew = wD at *
          have HCC := Lib.hid (Chg.refl (fun _ => False) wD)
          refine wpAnyH_take (i := 0) (v := ?_) rfl (by kernel_rfl) (by kernel_rfl) (by kernel_rfl) (fun _ _ _ h => h) (Or.inl ⟨by rfl, ?_⟩) (by assumption) ?_
          rotate_left
          · (intro wq hSw; (try dsimp only at hSw); go_simp; (try with_reducible rfl))
          simp only [Act.put, List.getElem_toArray, List.getElem_cons_zero, List.getElem_cons_succ, List.setIfInBounds_toArray, List.set_cons_zero, List.set_cons_succ]
          refine wpAnyH_take (i := 1) (v := ?_) rfl (by kernel_rfl) (by kernel_rfl) (by kernel_rfl) (fun _ _ _ h => h) (Or.inl ⟨by rfl, ?_⟩) (by assumption) ?_
          rotate_left
          · (intro wq hSw; (try dsimp only at hSw); go_simp; (try with_reducible rfl))
          simp only [Act.put, List.getElem_toArray, List.getElem_cons_zero, List.getElem_cons_succ, List.setIfInBounds_toArray, List.set_cons_zero, List.set_cons_succ]
          refine wpAnyH_take (i := 2) (v := ?_) rfl (by kernel_rfl) (by kernel_rfl) (by kernel_rfl) (fun _ _ _ h => h) (Or.inl ⟨by rfl, ?_⟩) (by assumption) ?_
          rotate_left
          · (intro wq hSw; (try dsimp only at hSw); go_simp; (try with_reducible rfl))
          simp only [Act.put, List.getElem_toArray, List.getElem_cons_zero, List.getElem_cons_succ, List.setIfInBounds_toArray, List.set_cons_zero, List.set_cons_succ]
          refine wpAnyH_take (i := 3) (v := ?_) rfl (by kernel_rfl) (by kernel_rfl) (by kernel_rfl) (fun _ _ _ h => h) (Or.inl ⟨by rfl, ?_⟩) (by assumption) ?_
          rotate_left
          · (intro wq hSw; (try dsimp only at hSw); go_simp; (try with_reducible rfl))
          simp only [Act.put, List.getElem_toArray, List.getElem_cons_zero, List.getElem_cons_succ, List.setIfInBounds_toArray, List.set_cons_zero, List.set_cons_succ]
          refine wpAnyH_take (i := 4) (v := ?_) rfl (by kernel_rfl) (by kernel_rfl) (by kernel_rfl) (fun _ _ _ h => h) (Or.inl ⟨by rfl, ?_⟩) (by assumption) ?_
          rotate_left
          · (intro wq hSw; (try dsimp only at hSw); go_simp; (try with_reducible rfl))
          simp only [Act.put, List.getElem_toArray, List.getElem_cons_zero, List.getElem_cons_succ, List.setIfInBounds_toArray, List.set_cons_zero, List.set_cons_succ]
          refine wpAnyH_take (i := 6) (v := ?_) rfl (by kernel_rfl) (by kernel_rfl) (by kernel_rfl) (fun _ _ _ h => h) (Or.inl ⟨by rfl, ?_⟩) (by assumption) ?_
          rotate_left
          · (intro wq hSw; (try dsimp only at hSw); go_simp; (try with_reducible rfl))
          simp only [Act.put, List.getElem_toArray, List.getElem_cons_zero, List.getElem_cons_succ, List.setIfInBounds_toArray, List.set_cons_zero, List.set_cons_succ]
          refine wpAnyH_take (i := 7) (v := ?_) rfl (by kernel_rfl) (by kernel_rfl) (by kernel_rfl) (fun _ _ _ h => h) (Or.inl ⟨by rfl, ?_⟩) (by assumption) ?_
          rotate_left
          · (intro wq hSw; (try dsimp only at hSw); go_simp; (try with_reducible rfl))
          simp only [Act.put, List.getElem_toArray, List.getElem_cons_zero, List.getElem_cons_succ, List.setIfInBounds_toArray, List.set_cons_zero, List.set_cons_succ]
          refine wpAnyH_take (i := 8) (v := ?_) rfl (by kernel_rfl) (by kernel_rfl) (by kernel_rfl) (fun _ _ _ h => h) (Or.inl ⟨by rfl, ?_⟩) (by assumption) ?_
          rotate_left
          · (intro wq hSw; (try dsimp only at hSw); go_simp; (try with_reducible rfl))
          simp only [Act.put, List.getElem_toArray, List.getElem_cons_zero, List.getElem_cons_succ, List.setIfInBounds_toArray, List.set_cons_zero, List.set_cons_succ]
          refine wpAnyH_take (i := 9) (v := ?_) rfl (by kernel_rfl) (by kernel_rfl) (by kernel_rfl) (fun _ _ _ h => h) (Or.inl ⟨by rfl, ?_⟩) (by assumption) ?_
          rotate_left
          · (intro wq hSw; (try dsimp only at hSw); go_simp; (try with_reducible rfl))
          simp only [Act.put, List.getElem_toArray, List.getElem_cons_zero, List.getElem_cons_succ, List.setIfInBounds_toArray, List.set_cons_zero, List.set_cons_succ]
          refine wpAnyH_take (i := 10) (v := ?_) rfl (by kernel_rfl) (by kernel_rfl) (by kernel_rfl) (fun _ _ _ h => h) (Or.inl ⟨by rfl, ?_⟩) (by assumption) ?_
          rotate_left
          · (intro wq hSw; (try dsimp only at hSw); go_simp; (try with_reducible rfl))
          simp only [Act.put, List.getElem_toArray, List.getElem_cons_zero, List.getElem_cons_succ, List.setIfInBounds_toArray, List.set_cons_zero, List.set_cons_succ]
          refine wpAnyH_ready (rs := [5]) (by kernel_rfl) (by simp) ?_
          refine AllReadyH.cons (by simp only [List.getElem?_toArray, List.getElem?_cons_succ, List.getElem?_cons_zero]; rfl) (fun K hK => ?_) AllReadyH.nil
          (go_simp; go_at_call 9; refine (HRF.out _ _).mono ?_; rintro _ wd ⟨rfl, hcd⟩; have HCC := Lib.hid (HCC.out.trans' hcd); clear hcd; go_simp)
          refine hK.out _ _ ?_ (fun hHeld => ?_)
          · (first | exact HS0.out | exact HKS.out _ HCC.out)
          clear hK K
          (try simp only [Act.put, List.getElem_toArray, List.getElem_cons_zero, List.getElem_cons_succ, List.setIfInBounds_toArray, List.set_cons_zero, List.set_cons_succ])
          refine wpAnyH_ready (rs := [11]) (by kernel_rfl) (by simp) ?_
          refine AllReadyH.cons (by simp only [List.getElem?_toArray, List.getElem?_cons_succ, List.getElem?_cons_zero]; rfl) (fun K hK => ?_) AllReadyH.nil
          (go_simp; go_at_call 9; refine (HRF.out _ _).mono ?_; rintro _ wd ⟨rfl, hcd⟩; have HCC := Lib.hid (HCC.out.trans' hcd); clear hcd; go_simp)
          refine hK.out _ _ ?_ (fun hHeld => ?_)
          · (first | exact HS0.out | exact HKS.out _ HCC.out)
          clear hK K
          (try simp only [Act.put, List.getElem_toArray, List.getElem_cons_zero, List.getElem_cons_succ, List.setIfInBounds_toArray, List.set_cons_zero, List.set_cons_succ])
          refine wpAnyH_done (by kernel_rfl) ?_ _
          change wpList _ _ _ _ _ _
          simp only [List.drop_succ_cons, List.drop_zero]
          go_wp2_with (go_at_call 8; refine (HMS.out _ (HWD.out.trans' HCC.out)).mono ?_; rintro e wm ⟨rfl, hp2, F2, hwh2, hhl2⟩)
          go_roundw
          case rel => exact ⟨j + 1, hp2, addE K q, F2, HNX.out, rfl, Lib.hid hwh2, Lib.hid (addE_lt HK.out HQ.out), Lib.hid (by have := addE_len K q; have := HKL.out; omega), Lib.hid hhl2⟩
          case measure => have := HLT.out; simp [intOf, w64]; omega
        · have hj2 : j = way.length := by omega
          subst hj2
          have HKL2 : Hid (K.length ≤ 12) := Lib.hid (by have := HKL.out; have := HWL.out; omega)
          clear hlt hj HKL
          obtain ⟨wo, rfl⟩ : ∃ wo : World, wo = wr := ⟨_, rfl⟩
          go_wp2_with fail
          go_loopw [15] (fun u15 wr => ∃ (q : Nat) (hp : Hp) (K F : List Nat), q ≤ n ∧ u15 = .int .i64 q ∧ Hid (WH (n + 1) K hp) ∧ Hid (∀ x ∈ K, x < n) ∧ Hid (K.length ≤ 12 + q ∧ ∀ x, x < q → x ∈ K) ∧ Hid (HL w wr bh hp (.slice al (n + 1) cl) (lsW (n + 1)) F)) (fun u15 _ => n - (intOf u15).toNat)
          case atStart => exact ⟨0, hp, K, F, by omega, rfl, HWH, HK, Lib.hid ⟨HKL2.out, fun x h => by omega⟩, HH⟩
          case round =>
            clear HH HWH HK HKL2
            clear hp K F
            rename World => wr
            obtain ⟨q, hp, K, F, hq, rfl, HWH, HK, HKL, HH⟩ := hrel
            by_cases hlt : q < n
            · have HQ := Lib.hid hlt
              have HNX := Lib.hid (show q + 1 ≤ n from hlt)
              have qn : (q : Int) < (n : Int) := by omega
              have hLl : (lsW (n + 1)).length = n + 1 := lsW_len _
              obtain ⟨gl, ol, cl', hv, p0⟩ := HH.out.li.at (k := q) (by rw [hLl]; omega)
              rw [hLl] at hv
              cases hv
              obtain ⟨gl', ol', cl2, hv, p1⟩ := HH.out.li.at (k := q + 1) (by rw [hLl]; omega)
              rw [hLl] at hv
              cases hv
              rw [lsW_get _ _ (by omega)] at p0
              rw [lsW_get _ _ (by omega)] at p1
              have HS0 : Hid (wr.cell? ⟨gl, ol + q, none⟩ = some (.int .i64 (hW (13 + q))) ∧ wr.cell? ⟨gl, ol + (q + 1), none⟩ = some (.int .i64 (hW (13 + (q + 1))))) := Lib.hid ⟨p0, p1⟩
              have q0 : (0 : Int) ≤ (q : Int) := by omega
              have q1 : (q : Int) < ((n + 1 : Nat) : Int) := by have := HQ.out; omega
              have q1' : (q : Int) < (n : Int) + 1 := by have := HQ.out; omega
              have q2 : (q : Int) < (n : Int) := by have := HQ.out; omega
              have q3 : (0 : Int) ≤ (q : Int) + 1 := by omega
              have q4 : (q : Int) + 1 < (n : Int) + 1 := by have := HQ.out; omega
              have wq : IntKind.i64.wrap ((q : Int) + 1) = ((q + 1 : Nat) : Int) := IntWalk.i64_in _ (by omega)
              have HRF := Lib.hid (fun (h : Int) (W : World) => vref_any h W)
              have HMS := Lib.hid (fun (W : World) (hc : Chg (fun _ => False) wr W) => mset_step w W bh (.slice (some ⟨gl, ol, none⟩) (n + 1) cl) (lsW (n + 1)) F q (HH.out.still hc) HWH.out HN.out.1 HK.out (by have := HKL.out.1; have := HN.out; have := HQ.out; omega) HQ.out)
              rw [show 14 + q = 13 + (q + 1) by omega] at HMS
              clear p0 p1 hLl
              go_upto_region 20 with fail
              refine wp_region_held_split 12 (fun w' => w'.cell? ⟨gl, ol + q, none⟩ = some (.int .i64 (hW (13 + q))) ∧ w'.cell? ⟨gl, ol + (q + 1), none⟩ = some (.int .i64 (hW (13 + (q + 1))))) (by kernel_rfl) (by kernel_rfl) ?_ (fun hHeld => ?_)
              · (first | exact HS0.out | exact HKS.out _ HCC.out)
              simp only [List.take_succ_cons, List.take_zero]
              have HKS : Hid (∀ W, Chg (fun _ => False) wr.drew W → W.cell? ⟨gl, ol + q, none⟩ = some (.int .i64 (hW (13 + q))) ∧ W.cell? ⟨gl, ol + (q + 1), none⟩ = some (.int .i64 (hW (13 + (q + 1))))) := Lib.hid (fun W hc => ⟨hc.cell HS0.out.1, hc.cell HS0.out.2⟩)
              have HWD : Hid (Chg (fun _ => False) wr wr.drew) := Lib.hid (Chg.refl _ wr).drewR
              generalize wr.drew = wD at *
              have HCC := Lib.hid (Chg.refl (fun _ => False) wD)
              refine wpAnyH_take (i := 0) (v := ?_) rfl (by kernel_rfl) (by kernel_rfl) (by kernel_rfl) (fun _ _ _ h => h) (Or.inl ⟨by rfl, ?_⟩) (by assumption) ?_
              rotate_left
              · (intro wq hSw; (try dsimp only at hSw); go_simp; (try with_reducible rfl))
              simp only [Act.put, List.getElem_toArray, List.getElem_cons_zero, List.getElem_cons_succ, List.setIfInBounds_toArray, List.set_cons_zero, List.set_cons_succ]
              refine wpAnyH_take (i := 1) (v := ?_) rfl (by kernel_rfl) (by kernel_rfl) (by kernel_rfl) (fun _ _ _ h => h) (Or.inl ⟨by rfl, ?_⟩) (by assumption) ?_
              rotate_left
              · (intro wq hSw; (try dsimp only at hSw); go_simp; (try with_reducible rfl))
              simp only [Act.put, List.getElem_toArray, List.getElem_cons_zero, List.getElem_cons_succ, List.setIfInBounds_toArray, List.set_cons_zero, List.set_cons_succ]
              refine wpAnyH_take (i := 2) (v := ?_) rfl (by kernel_rfl) (by kernel_rfl) (by kernel_rfl) (fun _ _ _ h => h) (Or.inl ⟨by rfl, ?_⟩) (by assumption) ?_
              rotate_left
              · (intro wq hSw; (try dsimp only at hSw); go_simp; (try with_reducible rfl))
              simp only [Act.put, List.getElem_toArray, List.getElem_cons_zero, List.getElem_cons_succ, List.setIfInBounds_toArray, List.set_cons_zero, List.set_cons_succ]
              refine wpAnyH_take (i := 3) (v := ?_) rfl (by kernel_rfl) (by kernel_rfl) (by kernel_rfl) (fun _ _ _ h => h) (Or.inl ⟨by rfl, ?_⟩) (by assumption) ?_
              rotate_left
              · (intro wq hSw; (try dsimp only at hSw); go_simp; (try with_reducible rfl))
              simp only [Act.put, List.getElem_toArray, List.getElem_cons_zero, List.getElem_cons_succ, List.setIfInBounds_toArray, List.set_cons_zero, List.set_cons_succ]
              refine wpAnyH_take (i := 4) (v := ?_) rfl (by kernel_rfl) (by kernel_rfl) (by kernel_rfl) (fun _ _ _ h => h) (Or.inl ⟨by rfl, ?_⟩) (by assumption) ?_
              rotate_left
              · (intro wq hSw; (try dsimp only at hSw); go_simp; (try with_reducible rfl))
              simp only [Act.put, List.getElem_toArray, List.getElem_cons_zero, List.getElem_cons_succ, List.setIfInBounds_toArray, List.set_cons_zero, List.set_cons_succ]
              refine wpAnyH_take (i := 6) (v := ?_) rfl (by kernel_rfl) (by kernel_rfl) (by kernel_rfl) (fun _ _ _ h => h) (Or.inl ⟨by rfl, ?_⟩) (by assumption) ?_
              rotate_left
              · (intro wq hSw; (try dsimp only at hSw); go_simp; (try with_reducible rfl))
              simp only [Act.put, List.getElem_toArray, List.getElem_cons_zero, List.getElem_cons_succ, List.setIfInBounds_toArray, List.set_cons_zero, List.set_cons_succ]
              refine wpAnyH_take (i := 7) (v := ?_) rfl (by kernel_rfl) (by kernel_rfl) (by kernel_rfl) (fun _ _ _ h => h) (Or.inl ⟨by rfl, ?_⟩) (by assumption) ?_
              rotate_left
              · (intro wq hSw; (try dsimp only at hSw); go_simp; (try with_reducible rfl))
              simp only [Act.put, List.getElem_toArray, List.getElem_cons_zero, List.getElem_cons_succ, List.setIfInBounds_toArray, List.set_cons_zero, List.set_cons_succ]
              refine wpAnyH_take (i := 8) (v := ?_) rfl (by kernel_rfl) (by kernel_rfl) (by kernel_rfl) (fun _ _ _ h => h) (Or.inl ⟨by rfl, ?_⟩) (by assumption) ?_
              rotate_left
              · (intro wq hSw; (try dsimp only at hSw); go_simp; (try with_reducible rfl))
              simp only [Act.put, List.getElem_toArray, List.getElem_cons_zero, List.getElem_cons_succ, List.setIfInBounds_toArray, List.set_cons_zero, List.set_cons_succ]
              refine wpAnyH_take (i := 9) (v := ?_) rfl (by kernel_rfl) (by kernel_rfl) (by kernel_rfl) (fun _ _ _ h => h) (Or.inl ⟨by rfl, ?_⟩) (by assumption) ?_
              rotate_left
              · (intro wq hSw; (try dsimp only at hSw); go_simp; (try with_reducible rfl))
              simp only [Act.put, List.getElem_toArray, List.getElem_cons_zero, List.getElem_cons_succ, List.setIfInBounds_toArray, List.set_cons_zero, List.set_cons_succ]
              refine wpAnyH_take (i := 10) (v := ?_) rfl (by kernel_rfl) (by kernel_rfl) (by kernel_rfl) (fun _ _ _ h => h) (Or.inl ⟨by rfl, ?_⟩) (by assumption) ?_
              rotate_left
              · (intro wq hSw; (try dsimp only at hSw); go_simp; (try with_reducible rfl))
              simp only [Act.put, List.getElem_toArray, List.getElem_cons_zero, List.getElem_cons_succ, List.setIfInBounds_toArray, List.set_cons_zero, List.set_cons_succ]
              refine wpAnyH_ready (rs := [5]) (by kernel_rfl) (by simp) ?_
              refine AllReadyH.cons (by simp only [List.getElem?_toArray, List.getElem?_cons_succ, List.getElem?_cons_zero]; rfl) (fun K hK => ?_) AllReadyH.nil
              (go_simp; go_at_call 9; refine (HRF.out _ _).mono ?_; rintro _ wd ⟨rfl, hcd⟩; have HCC := Lib.hid (HCC.out.trans' hcd); clear hcd; go_simp)
              refine hK.out _ _ ?_ (fun hHeld => ?_)
              · (first | exact HS0.out | exact HKS.out _ HCC.out)
              clear hK K
              (try simp only [Act.put, List.getElem_toArray, List.getElem_cons_zero, List.getElem_cons_succ, List.setIfInBounds_toArray, List.set_cons_zero, List.set_cons_succ])
              refine wpAnyH_ready (rs := [11]) (by kernel_rfl) (by simp) ?_
              refine AllReadyH.cons (by simp only [List.getElem?_toArray, List.getElem?_cons_succ, List.getElem?_cons_zero]; rfl) (fun K hK => ?_) AllReadyH.nil
              (go_simp; go_at_call 9; refine (HRF.out _ _).mono ?_; rintro _ wd ⟨rfl, hcd⟩; have HCC := Lib.hid (HCC.out.trans' hcd); clear hcd; go_simp)
              refine hK.out _ _ ?_ (fun hHeld => ?_)
              · (first | exact HS0.out | exact HKS.out _ HCC.out)
              clear hK K
              (try simp only [Act.put, List.getElem_toArray, List.getElem_cons_zero, List.getElem_cons_succ, List.setIfInBounds_toArray, List.set_cons_zero, List.set_cons_succ])
              refine wpAnyH_done (by kernel_rfl) ?_ _
              change wpList _ _ _ _ _ _
              simp only [List.drop_succ_cons, List.drop_zero]
              go_wp2_with (go_at_call 8; refine (HMS.out _ (HWD.out.trans' HCC.out)).mono ?_; rintro e wm ⟨rfl, hp2, F2, hwh2, hhl2⟩)
              go_roundw
              case rel => exact ⟨q + 1, hp2, addE K q, F2, HNX.out, rfl, Lib.hid hwh2, Lib.hid (addE_lt HK.out HQ.out), Lib.hid ⟨by have := addE_len K q; have := HKL.out.1; omega, fun x hx => by
                by_cases e : x = q
                · rw [e]; exact addE_mem K q
                · exact addE_sub (HKL.out.2 x (by omega))⟩, Lib.hid hhl2⟩
              case measure => have := HQ.out; simp [intOf, wq]; omega
            · have hq2 : q = n := by omega
              subst hq2
              have HALL : Hid (∀ x, x + 1 < q + 1 → x ∈ K) := Lib.hid (fun x hx => HKL.out.2 x (by omega))
              have HKK : Hid (∀ x ∈ K, x + 1 < q + 1) := Lib.hid (fun x hx => by have := HK.out x hx; omega)
              have HOK := Lib.hid (HWH.out.ok (by have := HN.out; omega) (by have := HKL.out.1; have := HN.out; omega))
              clear hlt hq HKL
              obtain ⟨wq, rfl⟩ : ∃ wq : World, wq = wr := ⟨_, rfl⟩
              have HHQ := HH
              clear HH
              have n0q : (0 : Int) ≤ (q : Int) := by omega
              go_wp2_with fail
              go_loopw [16, 17, 18, 19, 20] (fun u16 _ _ _ _ wr => ∃ (cut : Nat), cut ≤ q + 1 ∧ u16 = .int .i64 cut ∧ Hid (Chg (fun _ => False) wq wr)) (fun u16 _ _ _ _ _ => q + 1 - (intOf u16).toNat)
              case atStart => exact ⟨0, by omega, rfl, Lib.hid (Chg.refl _ _)⟩
              case round =>
                rename World => wr
                obtain ⟨cut, hcu, rfl, HCR⟩ := hrel
                by_cases hlt : cut < q + 1
                · have c0 : (0 : Int) ≤ (cut : Int) := by omega
                  have c1 : (cut : Int) ≤ (q : Int) := by omega
                  have c2 : (cut : Int) < ((q + 1 : Nat) : Int) := by omega
                  have w64 : IntKind.i64.wrap ((cut : Int) + 1) = ((cut + 1 : Nat) : Int) := IntWalk.i64_in _ (by omega)
                  have HLT := Lib.hid hlt
                  have HNX := Lib.hid (show cut + 1 ≤ q + 1 from hlt)
                  have HHR := Lib.hid (HHQ.out.still HCR.out)
                  obtain ⟨gl, ol, cl', hv, p0⟩ := HHR.out.li.at (k := cut) (by rw [lsW_len]; exact hlt)
                  rw [lsW_len] at hv
                  cases hv
                  rw [lsW_get _ _ hlt] at p0
                  have HLV := Lib.hid (live_any (wr.alloc (.cells #[.int .i64 (hW 12), .int .i64 (hW (13 + cut))] 3)) bh hp F (.slice (some ⟨wr.heap.size, 0, none⟩) 2 2) .nilFunc [hW 12, hW (13 + cut)] noW (HHR.out.heap.here.alloc _) HOK.out (RowAt.lit [.int .i64 (hW 12), .int .i64 (hW (13 + cut))] rfl (by simp [maxLen])) (by simp)
                    (by intro r hr; simp only [List.mem_cons, List.not_mem_nil, or_false] at hr; rcases hr with rfl | rfl; exact handle_InI 6 6 (i := 12) (by omega); exact handle_InI 6 6 (i := 13 + cut) (by have := HN.out; omega)) (.inl ⟨rfl, rfl⟩))
                  rw [map_h HWH.out.base HWH.out.stride] at HLV
                  have HFD : Hid (∀ i, i < q + 1 → (hW (13 + i) ∈ (liveM hp noW hp.slots.length hp.slots.length (addsK hp [] [hW 12, hW (13 + cut)]) 0).map (fun r => hW r) ↔ cut ≤ i)) := Lib.hid (fun i hi => by
                    have hg := HWH.out.good (by have := HN.out; omega) HK.out [hW 12, hW (13 + cut)]
                    rw [HWH.out.mem (by have := HN.out; omega) hg.lt (by omega)]
                    exact HWH.out.found (by have := HN.out; omega) HKK.out HALL.out HLT.out hi)
                  have HLL : Hid (((liveM hp noW hp.slots.length hp.slots.length (addsK hp [] [hW 12, hW (13 + cut)]) 0).map (fun r => hW r)).length ≤ 50) := Lib.hid (by
                    rw [List.length_map]
                    have := good_len _ _ (HWH.out.good (by have := HN.out; omega) HK.out [hW 12, hW (13 + cut)])
                    have := HN.out; omega)
                  generalize (liveM hp noW hp.slots.length hp.slots.length (addsK hp [] [hW 12, hW (13 + cut)]) 0).map (fun r => hW r) = Lv at *
                  clear hcu hlt
                  go_upto_region 25 with (go_at_call 10; refine HLV.out.mono ?_; rintro e w5 ⟨v5, rfl, HO5⟩)
                  clear p0 c2
                  obtain ⟨a5, k5, rfl, -, -⟩ := HO5.val
                  have HO := Lib.hid HO5
                  have HC5 := Lib.hid (HCR.out.trans' ((Chg.alloc (fun _ => False) wr _).trans' HO5.chg))
                  have ll : (Lv.length : Int) ≤ 50 := by have := HLL.out; omega
                  clear HO5 HLV
                  go_wp2_with fail
                  go_loopw [18, 19, 20] (fun u18 _ _ wx => ∃ (i : Nat), i ≤ q + 1 ∧ u18 = .int .i64 i ∧ Hid (Chg (fun _ => False) w5 wx)) (fun u18 _ _ _ => q + 1 - (intOf u18).toNat)
                  case atStart => exact ⟨0, by omega, rfl, Lib.hid (Chg.refl _ _)⟩
                  case round =>
                    rename World => wx
                    obtain ⟨i, hi, rfl, HCX⟩ := hrel
                    by_cases hli : i < q + 1
                    · have i0 : (0 : Int) ≤ (i : Int) := by omega
                      have i1 : (i : Int) ≤ (q : Int) := by omega
                      have i2 : (i : Int) < ((q + 1 : Nat) : Int) := by omega
                      have wi64 : IntKind.i64.wrap ((i : Int) + 1) = ((i + 1 : Nat) : Int) := IntWalk.i64_in _ (by omega)
                      have HLI := Lib.hid hli
                      have HNI := Lib.hid (show i + 1 ≤ q + 1 from hli)
                      obtain ⟨gl2, ol2, cl2, hv, p1⟩ := HHQ.out.li.at (k := i) (by rw [lsW_len]; exact hli)
                      rw [lsW_len] at hv
                      cases hv
                      rw [lsW_get _ _ hli] at p1
                      have HP1 := Lib.hid (HCX.out.cell (HC5.out.cell p1))
                      have HFI := Lib.hid (HFD.out i hli)
                      generalize hW (13 + i) = x at *
                      clear hi hli p1
                      go_wp2_with fail
                      go_loopw [19, 20] (fun u19 u20 wy => ∃ (k : Nat) (b : Bool), k ≤ Lv.length ∧ u20 = .int .i64 k ∧ u19 = .bool b ∧ Hid (b = decide (x ∈ Lv.take k)) ∧ Hid (Chg (fun _ => False) wx wy)) (fun _ u20 _ => Lv.length - (intOf u20).toNat)
                      case atStart => exact ⟨0, false, by omega, rfl, rfl, Lib.hid (by simp), Lib.hid (Chg.refl _ _)⟩
                      case round =>
                        rename World => wy
                        obtain ⟨k, b, hk, rfl, rfl, HB, HCY⟩ := hrel
                        by_cases hlk : k < Lv.length
                        · have k0 : (0 : Int) ≤ (k : Int) := by omega
                          have k1 : (k : Int) < (Lv.length : Int) := by omega
                          have wk64 : IntKind.i64.wrap ((k : Int) + 1) = ((k + 1 : Nat) : Int) := IntWalk.i64_in _ (by omega)
                          obtain ⟨g5, o5, c5, hv, p5⟩ := HO.out.at hlk
                          cases hv
                          have p5' := HCY.out.cell (HCX.out.cell p5)
                          have p1' := HCY.out.cell HP1.out
                          have HT := Lib.hid (fun y (h : Lv[k] = y) (b : Bool) hb => in_take (x := x) (b := b) hlk h hb)
                          have HT2 := Lib.hid (HT.out _ rfl b HB.out)
                          clear p5 hk HT
                          generalize Lv[k] = y at *
                          have HLK := Lib.hid hlk
                          have HNK := Lib.hid (show k + 1 ≤ Lv.length from hlk)
                          clear hlk
                          cases b with
                          | true =>
                            have HB2 : Hid (true = decide (x ∈ Lv.take (k + 1))) := Lib.hid (by have := HT2.out; simpa using this)
                            go_wp2_with fail
                            go_quiet (fail)
                            all_goals (
                              go_wp2_with fail
                              go_roundw
                              case rel => exact ⟨k + 1, true, HNK.out, rfl, rfl, HB2, Lib.hid (HCY.out.trans' (Chg.drewN _ _ _))⟩
                              case measure => have := HLK.out; simp [intOf, wk64]; omega)
                          | false =>
                            have HB2 : Hid ((y == x) = decide (x ∈ Lv.take (k + 1))) := Lib.hid (by have := HT2.out; rwa [Bool.false_or] at this)
                            go_wp2_with fail
                            go_quiet (fail)
                            all_goals (
                              go_wp2_with fail
                              go_roundw
                              case rel => exact ⟨k + 1, (y == x), HNK.out, rfl, rfl, HB2, Lib.hid (HCY.out.trans' (Chg.drewN _ _ _))⟩
                              case measure => have := HLK.out; simp [intOf, wk64]; omega)
                        · have hk2 : k = Lv.length := by omega
                          subst hk2
                          have hb := HB.out
                          rw [List.take_length] at hb
                          have HCZ := Lib.hid (HCX.out.trans' HCY.out)
                          clear hlk hk HB
                          by_cases hci : cut ≤ i
                          · have hci' : (cut : Int) ≤ (i : Int) := by omega
                            have hbt : b = true := by rw [hb]; exact decide_eq_true (HFI.out.2 hci)
                            clear hb hci
                            subst hbt
                            have zz : (true != decide ((cut : Int) ≤ (i : Int))) = false := by simp [hci']
                            go_wp2_with fail
                            go_roundw
                            case rel => exact ⟨i + 1, HNI.out, rfl, HCZ⟩
                            case measure => have := HLI.out; simp [intOf, wi64]; omega
                          · have hci' : ¬ (cut : Int) ≤ (i : Int) := by omega
                            have hbt : b = false := by rw [hb]; exact decide_eq_false (fun h => hci (HFI.out.1 h))
                            clear hb hci
                            subst hbt
                            have zz : (false != decide ((cut : Int) ≤ (i : Int))) = false := by simp [hci']
                            go_wp2_with fail
                            go_roundw
                            case rel => exact ⟨i + 1, HNI.out, rfl, HCZ⟩
                            case measure => have := HLI.out; simp [intOf, wi64]; omega
                    · have hi2 : i = q + 1 := by omega
                      have hni : ¬ (i : Int) ≤ (q : Int) := by omega
                      clear hli hi hi2
                      go_wp2_with fail
                      go_roundw
                      case rel => exact ⟨cut + 1, HNX.out, rfl, Lib.hid (HC5.out.trans' HCX.out)⟩
                      case measure => have := HLT.out; simp [intOf, w64]; omega
                · have hcn : ¬ (cut : Int) ≤ (q : Int) := by omega
                  clear hlt hcu
                  have HHR := Lib.hid (HHQ.out.still HCR.out)
                  have HLV := Lib.hid (live_any (wr.alloc (.cells #[.int .i64 (hW 12)] 3)) bh hp F (.slice (some ⟨wr.heap.size, 0, none⟩) 1 1) .nilFunc [hW 12] noW (HHR.out.heap.here.alloc _) HOK.out (RowAt.lit [.int .i64 (hW 12)] rfl (by simp [maxLen])) (by simp)
                    (by intro r hr; rw [List.mem_singleton.1 hr]; exact handle_InI 6 6 (i := 12) (by omega)) (.inl ⟨rfl, rfl⟩))
                  rw [map_h HWH.out.base HWH.out.stride] at HLV
                  have HFD : Hid (∀ i, i < q + 1 → hW (13 + i) ∉ (liveM hp noW hp.slots.length hp.slots.length (addsK hp [] [hW 12]) 0).map (fun r => hW r)) := Lib.hid (fun i hi => by
                    have hg := HWH.out.good (by have := HN.out; omega) HK.out [hW 12]
                    rw [HWH.out.mem (by have := HN.out; omega) hg.lt (by omega)]
                    exact HWH.out.none (by have := HN.out; omega) HKK.out hi)
                  have HLL : Hid (((liveM hp noW hp.slots.length hp.slots.length (addsK hp [] [hW 12]) 0).map (fun r => hW r)).length ≤ 50) := Lib.hid (by
                    rw [List.length_map]
                    have := good_len _ _ (HWH.out.good (by have := HN.out; omega) HK.out [hW 12])
                    have := HN.out; omega)
                  generalize (liveM hp noW hp.slots.length hp.slots.length (addsK hp [] [hW 12]) 0).map (fun r => hW r) = Lv at *
                  go_upto_region 36 with (go_at_call 10; refine HLV.out.mono ?_; rintro e w5 ⟨v5, rfl, HO5⟩)
                  obtain ⟨a5, k5, rfl, -, -⟩ := HO5.val
                  have HO := Lib.hid HO5
                  have HC5 := Lib.hid (HCR.out.trans' ((Chg.alloc (fun _ => False) wr _).trans' HO5.chg))
                  have ll : (Lv.length : Int) ≤ 50 := by have := HLL.out; omega
                  clear HO5 HLV hcn
                  go_wp2_with fail
                  go_loopw [22, 23] (fun u22 _ wx => ∃ (i : Nat), i ≤ Lv.length ∧ u22 = .int .i64 i ∧ Hid (Chg (fun _ => False) w5 wx)) (fun u22 _ _ => Lv.length - (intOf u22).toNat)
                  case atStart => exact ⟨0, by omega, rfl, Lib.hid (Chg.refl _ _)⟩
                  case round =>
                    rename World => wx
                    obtain ⟨i, hi, rfl, HCX⟩ := hrel
                    by_cases hli : i < Lv.length
                    · have i0 : (0 : Int) ≤ (i : Int) := by omega
                      have i1 : (i : Int) < (Lv.length : Int) := by omega
                      have wi64 : IntKind.i64.wrap ((i : Int) + 1) = ((i + 1 : Nat) : Int) := IntWalk.i64_in _ (by omega)
                      have HLI := Lib.hid hli
                      have HNI := Lib.hid (show i + 1 ≤ Lv.length from hli)
                      obtain ⟨g5, o5, c5, hv, p5⟩ := HO.out.at hli
                      cases hv
                      have HP5 := Lib.hid (HCX.out.cell p5)
                      have HY := Lib.hid (List.getElem_mem hli)
                      clear p5 hi
                      generalize Lv[i] = y at *
                      clear hli
                      go_wp2_with fail
                      go_loopw [23] (fun u23 wy => ∃ (k : Nat), k ≤ q + 1 ∧ u23 = .int .i64 k ∧ Hid (Chg (fun _ => False) wx wy)) (fun u23 _ => q + 1 - (intOf u23).toNat)
                      case atStart => exact ⟨0, by omega, rfl, Lib.hid (Chg.refl _ _)⟩
                      case round =>
                        rename World => wy
                        obtain ⟨k, hk, rfl, HCY⟩ := hrel
                        by_cases hlk : k < q + 1
                        · have k0 : (0 : Int) ≤ (k : Int) := by omega
                          have k1 : (k : Int) ≤ (q : Int) := by omega
                          have k2 : (k : Int) < ((q + 1 : Nat) : Int) := by omega
                          have wk64 : IntKind.i64.wrap ((k : Int) + 1) = ((k + 1 : Nat) : Int) := IntWalk.i64_in _ (by omega)
                          obtain ⟨gl2, ol2, cl2, hv, p1⟩ := HHQ.out.li.at (k := k) (by rw [lsW_len]; exact hlk)
                          rw [lsW_len] at hv
                          cases hv
                          rw [lsW_get _ _ hlk] at p1
                          have p1' := HCY.out.cell (HCX.out.cell (HC5.out.cell p1))
                          have p5' := HCY.out.cell HP5.out
                          have hne : (y == hW (13 + k)) = false := beq_false_of_ne (fun e => HFD.out k hlk (e ▸ HY.out))
                          have HLK := Lib.hid hlk
                          have HNK := Lib.hid (show k + 1 ≤ q + 1 from hlk)
                          clear p1 hk hlk
                          generalize hW (13 + k) = x at *
                          have hne2 : ¬ y = x := by simpa using hne
                          go_wp2_with fail
                          go_quiet (fail)
                          all_goals (
                            go_wp2_with fail
                            go_roundw
                            case rel => exact ⟨k + 1, HNK.out, rfl, Lib.hid (HCY.out.trans' (Chg.drewN _ _ _))⟩
                            case measure => have := HLK.out; simp [intOf, wk64]; omega)
                        · have hkn : ¬ (k : Int) ≤ (q : Int) := by omega
                          clear hlk hk
                          go_wp2_with fail
                          go_roundw
                          case rel => exact ⟨i + 1, HNI.out, rfl, Lib.hid (HCX.out.trans' HCY.out)⟩
                          case measure => have := HLI.out; simp [intOf, wi64]; omega
                    · have hi2 : i = Lv.length := by omega
                      subst hi2
                      clear hli hi
                      go_wp2_with fail
                      go_ret
                      exact ⟨rfl, (HHQ.out.heap.chg.trans' (HC5.out.trans' HCX.out)).below (Nat.le_refl _) (fun _ h => h.elim)⟩
end Go.Proofs.YthiiehanlconeaaDoor
