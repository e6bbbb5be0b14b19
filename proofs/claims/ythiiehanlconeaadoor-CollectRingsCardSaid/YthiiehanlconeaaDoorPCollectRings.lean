/-
  CollectRings: the statement, its tied card. No conditions beyond the row's own.
-/
import Derived.Test.YthiiehanlconeaaDoorPCollectRingsh
import Derived.Test.YthiiehanlconeaaDoorPCollectRingse
import Derived.Test.YthiiehanlconeaaDoorPCollectRingsd
import Derived.Deep.DeepHandedRow
import Derived.SevenTiedAt
import Derived.Lay
import Derived.LaidMore
import Derived.Stop.Joined
import Derived.Test.YthiiehanlconeaaDoorCards
import Derived.Test.YthiiehanlconeaaDoorTie
import Derived.Test.YthiiehanlconeaaDoorPCollectRingsa
import Derived.Test.YthiiehanlconeaaDoorPCollectRingsb
import Derived.Test.YthiiehanlconeaaDoorPCollectRingsc
import Derived.Test.YthiiehanlconeaaDoorPCollectRingsf
import Derived.Test.YthiiehanlconeaaDoorPCollectRingsg
namespace Go.Proofs.YthiiehanlconeaaDoor
open Go.RowKit
set_option linter.unusedVariables false
set_option linter.unusedSimpArgs false

def lsR (k : Nat) : List Int := (List.range k).map fun q => hR (12 + q)
theorem lsR_len (k : Nat) : (lsR k).length = k := by simp [lsR]
theorem lsR_get (k q : Nat) (h : q < k) {hh : q < (lsR k).length} : (lsR k)[q] = hR (12 + q) := by simp [lsR]
theorem lsR_succ (k : Nat) : lsR (k + 1) = lsR k ++ [hR (12 + k)] := by simp [lsR, List.range_succ]
theorem hR_in {i : Nat} (hi : i ≤ 1000) : -9223372036854775808 ≤ hR i ∧ hR i ≤ 9223372036854775807 := by rw [hR_eq hi]; omega
theorem tdiv_two (k : Nat) : ((k : Int)).tdiv 2 = ((k / 2 : Nat) : Int) := by
  rw [Int.tdiv_eq_ediv_of_nonneg (by omega)]; rfl
theorem PH.congr {k : Nat} {P P' : Nat → List Prp} {hp : Hp} (h : PH k P hp) (e : ∀ j, j < 12 + k → P j = P' j) : PH k P' hp :=
  ⟨h.base, h.stride, h.len, h.free, h.live, h.glob, h.text, h.prot, h.used, fun i hi => by rw [← e i hi]; exact h.obj i hi⟩
theorem put_step {k : Nat} {P : Nat → List Prp} {hp : Hp} (w0 w : World) (bh : Nat) (v : Value) (L : List Int) (F : List Nat) (i t : Nat) (key : ByteArray) (H : HL w0 w bh hp v L F) (ph : PH k P hp) (hk : k ≤ 100) (hi : i < 12 + k) (ht : t < k) (hP : P i = []) :
    Calls Tryd.prog 11 #[.pointer (some ⟨bh, 0, none⟩), .int .i64 (hR i), .string key, .agg #[.int .i64 5, .int .i64 0, .string ⟨#[]⟩, .int .i64 (hR (12 + t))]] w
      fun e w' => e = .returned (.int .i64 0) ∧ ∃ hp' F', PH k (fun j => if j = i then [⟨key, 5, 0, ⟨#[]⟩, hR (12 + t)⟩] else P j) hp' ∧ HL w0 w' bh hp' v L F' := by
  obtain ⟨hl, ho⟩ := ph.at hi
  rw [hP] at ho
  refine (put_new w bh hp F (hR i) i key ⟨5, 0, ⟨#[]⟩, hR (12 + t)⟩ ⟨5, 0, ⟨#[]⟩, hR (12 + t)⟩ H.heap.here (hR_in (by omega)) (ph.slot hk hi) hl (by rw [ho]; show (0 : Int) ≠ 1; omega) (fun W _ => normal_ref (hR (12 + t)) W) (by rw [ho]; rfl) (by rw [ho]; show 0 < 10000; omega)).mono ?_
  rintro e w' ⟨rfl, hpo⟩
  rw [ho] at hpo
  obtain ⟨F', hh⟩ := H.heapS hpo
  exact ⟨rfl, _, F', ph.put hi [⟨key, 5, 0, ⟨#[]⟩, hR (12 + t)⟩] (if_pos rfl) (fun j hj => if_neg hj), hh⟩
set_option maxHeartbeats 25600000 in
set_option maxRecDepth 100000 in
theorem collectRings_walk (nb : Nat) (held : Bool) (w : World) (hb : nb < 256) :
    Calls Tryd.prog 4 #[.int .u8 (nb : Int), .bool held] w fun e w' => e = .returned (.bool true) ∧ Below w.heap.size w w' := by
  have HAW := Lib.hid awake_any
  have HNW := Lib.hid (fun W => new_any 0 0 W)
  obtain ⟨k, hk, hk0⟩ : ∃ k : Nat, k = 1 + nb % 50 ∧ k ≤ 50 := ⟨_, rfl, by omega⟩
  have HK : Hid (k ≤ 50 ∧ 1 ≤ k) := Lib.hid (by omega)
  have b0 : (0 : Int) ≤ (nb : Int) := by omega
  have wn0 : IntKind.i64.wrap ((nb : Int) % 50) = (nb : Int) % 50 := IntWalk.i64_in _ (by omega)
  have wn1 : IntKind.i64.wrap (1 + (nb : Int) % 50) = (k : Int) := by rw [show (1 + (nb : Int) % 50) = (k : Int) by omega]; exact IntWalk.i64_in _ (by omega)
  have k50 : (k : Int) ≤ 50 := by omega
  have k1 : (1 : Int) ≤ (k : Int) := by omega
  clear hk hk0
  go_enter Tryd.func4, Tryd.ntmps4
  go_upto_region 4 with (first
    | (go_at_call 5; refine (HAW.out _).mono ?_; rintro e w0 ⟨rfl, hc0⟩)
    | (go_at_call 6; refine (HNW.out _).mono ?_; rintro e w1 ⟨cs, F, rfl, hown, hnd, hlo, hch⟩; have hown' := hown; obtain ⟨v1, v2, v3, F1, F2, F3, rfl, o1, o2, o3, -⟩ := hown'; obtain ⟨x1, y1, p1⟩ := Rep.opened o1; obtain ⟨n1, m1, rfl, -⟩ := p1.val; obtain ⟨x2, y2, p2⟩ := Rep.opened o2; obtain ⟨n2, m2, rfl, -⟩ := p2.val; obtain ⟨x3, y3, p3⟩ := Rep.opened o3; obtain ⟨n3, m3, rfl, -⟩ := p3.val; clear o1 o2 o3 p1 p2 p3))
  have hch' := hc0.trans' hch
  have HO := Lib.hid (show Own hpR w (w1.alloc (.cells _ 31)) w1.heap.size 0 (newM 0 0) F from ⟨Here.made w1 31 _ (newM 0 0) F hown hnd, hch'.allocR _, hch'.size, fun k hk => by have := hlo k hk; have := hc0.size; omega⟩)
  clear HNW hown hnd hlo hch hch' hc0
  generalize w1.alloc (.cells #[.int .i64 (newM 0 0).base, .int .i64 (newM 0 0).stride, .slice n1 (newM 0 0).slots.length m1, .slice n2 (newM 0 0).free.length m2, .int .i64 (newM 0 0).live, .int .i64 (newM 0 0).global, .int .i64 (newM 0 0).texts, .slice n3 (newM 0 0).protos.length m3] 31) = W2 at *
  generalize w1.heap.size = bh at *
  have HH0 := Lib.hid (HL.of HO.out)
  have HPH0 := Lib.hid ph_begin
  clear HO
  generalize newM 0 0 = hp0 at *
  go_wp2_with fail
  go_loopw [7, 8, 9, 10] (fun u7 u8 _ _ wr => ∃ (i : Nat) (a : Option Addr) (nn c : Nat) (hp : Hp) (F : List Nat), i ≤ k ∧ u8 = .int .i64 i ∧ u7 = .slice a nn c ∧ Hid (PH i (fun _ => []) hp) ∧ Hid (HL w wr bh hp (.slice a nn c) (lsR i) F)) (fun _ u8 _ _ _ => k - (intOf u8).toNat)
  case atStart => exact ⟨0, none, 0, 0, hp0, F, by omega, rfl, rfl, HPH0, HH0⟩
  case round =>
    clear HPH0 HH0
    obtain ⟨i, al, ml, cl, hp, F, hi, rfl, rfl, HPH, HH⟩ := hrel
    by_cases hlt : i < k
    · have i0 : (0 : Int) ≤ (i : Int) := by omega
      have i1 : (i : Int) < (k : Int) := by omega
      have w64 : IntKind.i64.wrap ((i : Int) + 1) = ((i + 1 : Nat) : Int) := IntWalk.i64_in _ (by omega)
      have HLT := Lib.hid hlt
      have HNX := Lib.hid (show i + 1 ≤ k from hlt)
      have hmk0 := make_any wr bh hp F 0 HH.out.heap.here HPH.out.free (by rw [HPH.out.live, HPH.out.len]) (by rw [HPH.out.len]; have := HK.out; omega) (by rw [HPH.out.prot]; rfl) (by omega)
      rw [HPH.out.len, HPH.out.base, HPH.out.stride, show handleM 0 0 ((12 + i : Nat) : Int) = hR (12 + i) from rfl, show ((0 : Nat) : Int) = 0 from rfl] at hmk0
      have HMK := Lib.hid hmk0
      clear hmk0 hi hlt
      go_upto_region 10 with (go_at_call 7; refine HMK.out.mono ?_; rintro e Wm ⟨rfl, hA⟩)
      obtain ⟨Fm, hrm⟩ := HH.out.heapS hA.post
      have HRM := Lib.hid hrm
      have HPM := Lib.hid (HPH.out.more rfl)
      rw [show ((0 : Nat) : Int) = 0 from rfl] at HPM
      clear hA hrm HMK HH HPH
      generalize addedM hp ⟨true, newObj 0 (hp.protos.getD 0 0)⟩ = hp' at *
      have HO5 := Lib.hid (HRM.out.li.alloc (.cells #[.int .i64 (hR (12 + i))] 3))
      go_wp2_with (at_builtin; refine wpList_out rfl (.tmp 35) (.tmp 37) rfl _ (lsR i) rfl HO5.out _ [hR (12 + i)] rfl (RowAt.lit [.int .i64 (hR (12 + i))] rfl (by simp [maxLen])) (⟨by rw [lsR_len]; have := HK.out; have := HLT.out; simp; omega⟩ : Few _) ?_; intro a2 n2 c2 wl HO6 hch2 hold2)
      have hrs := (HRM.out.still (Chg.alloc (fun _ => False) Wm (.cells #[.int .i64 (hR (12 + i))] 3))).liS hch2 HO6 hold2
      rw [← lsR_succ] at hrs
      go_roundw
      case rel => exact ⟨i + 1, a2, n2, c2, hp', Fm, HNX.out, rfl, rfl, HPM, Lib.hid hrs⟩
      case measure => have := HLT.out; simp [intOf, w64]; omega
    · have hi2 : i = k := by omega
      subst hi2
      clear hlt hi
      obtain ⟨ax, cx, hv, -, -⟩ := HH.out.li.val
      rw [lsR_len] at hv
      cases hv
      have HPH2 : Hid (PH i (pM i 0) hp) := Lib.hid (HPH.out.congr (fun j hj => by unfold pM; rw [if_neg (by omega)]))
      obtain ⟨wo, rfl⟩ : ∃ wo : World, wo = wr := ⟨_, rfl⟩
      obtain ⟨k, rfl⟩ : ∃ k, k = i := ⟨_, rfl⟩
      go_wp2_with fail
      go_loopw [11] (fun u11 wr => ∃ (q : Nat) (hp : Hp) (F : List Nat), q ≤ k ∧ u11 = .int .i64 q ∧ Hid (PH k (pM k q) hp) ∧ Hid (HL w wr bh hp (.slice al k cl) (lsR k) F)) (fun u11 _ => k - (intOf u11).toNat)
      case atStart => exact ⟨0, hp, F, by omega, rfl, HPH2, HH⟩
      case round =>
        clear HPH HPH2 HH
        clear hp F
        rename World => wr
        obtain ⟨q, hp, F, hq, rfl, HPH, HH⟩ := hrel
        by_cases hlt : q < k
        · have HQ := Lib.hid hlt
          have HNX := Lib.hid (show q + 1 ≤ k from hlt)
          have q0 : (0 : Int) ≤ (q : Int) := by omega
          have q1 : (q : Int) < (k : Int) := by omega
          have w64 : IntKind.i64.wrap ((q : Int) + 1) = ((q + 1 : Nat) : Int) := IntWalk.i64_in _ (by omega)
          obtain ⟨r, hr, hrk⟩ : ∃ r, r = (q + 1) % k ∧ r < k := ⟨_, rfl, Nat.mod_lt _ (by omega)⟩
          have HRK := Lib.hid hrk
          have HRE := Lib.hid hr
          obtain ⟨gl, ol, cl2, hv, p0⟩ := HH.out.li.at (k := q) (by rw [lsR_len]; exact hlt)
          rw [lsR_len] at hv
          cases hv
          obtain ⟨gl2, ol2, cl3, hv, p1⟩ := HH.out.li.at (k := r) (by rw [lsR_len]; exact hrk)
          rw [lsR_len] at hv
          cases hv
          rw [lsR_get _ _ hlt] at p0
          rw [lsR_get _ _ hrk] at p1
          have tr : ((q : Int) + 1).tmod (k : Int) = (r : Int) := by rw [hr]; exact tmod_nat (q + 1) k
          have tr2 : ((q : Int) + 1) % (k : Int) = (r : Int) := by rw [hr]; rfl
          have z0 : ((k : Int) == 0) = false := beq_false_of_ne (by omega)
          have z2 : ¬ (k : Int) = 0 := by omega
          have z1 : ¬ k = 0 := by omega
          have r0 : (0 : Int) ≤ (r : Int) := by omega
          have r1 : (r : Int) < (k : Int) := by omega
          have HS0 : Hid (wr.cell? ⟨gl, ol + q, none⟩ = some (.int .i64 (hR (12 + q))) ∧ wr.cell? ⟨gl, ol + r, none⟩ = some (.int .i64 (hR (12 + r)))) := Lib.hid ⟨p0, p1⟩
          have HRF := Lib.hid (fun (h : Int) (W : World) => vref_any h W)
          have HPU := Lib.hid (fun (W : World) (hc : Chg (fun _ => False) wr W) => put_step w W bh (.slice (some ⟨gl, ol, none⟩) k cl) (lsR k) F (12 + q) r nextB (HH.out.still hc) HPH.out (by have := HK.out; omega) (by have := HQ.out; omega) HRK.out (by unfold pM; rw [if_neg (by omega)]))
          unfold nextB at HPU
          clear p0 p1 hr hrk hlt hq
          go_upto_region 14 with fail
          refine wp_region_held_split 12 (fun w' => w'.cell? ⟨gl, ol + q, none⟩ = some (.int .i64 (hR (12 + q))) ∧ w'.cell? ⟨gl, ol + r, none⟩ = some (.int .i64 (hR (12 + r)))) (by kernel_rfl) (by kernel_rfl) ?_ (fun hHeld => ?_)
          · (first | exact HS0.out | exact HKS.out _ HCC.out)
          simp only [List.take_succ_cons, List.take_zero]
          have HKS : Hid (∀ W, Chg (fun _ => False) wr.drew W → W.cell? ⟨gl, ol + q, none⟩ = some (.int .i64 (hR (12 + q))) ∧ W.cell? ⟨gl, ol + r, none⟩ = some (.int .i64 (hR (12 + r)))) := Lib.hid (fun W hc => ⟨hc.cell HS0.out.1, hc.cell HS0.out.2⟩)
          have HWD : Hid (Chg (fun _ => False) wr wr.drew) := Lib.hid (Chg.refl _ wr).drewR
          generalize wr.drew = wD at *
          have HCC := Lib.hid (Chg.refl (fun _ => False) wD)
          refine wpAnyH_take (i := 0) (v := ?_) rfl (by kernel_rfl) (by kernel_rfl) (by kernel_rfl) (fun _ _ _ h => h) (Or.inl ⟨by rfl, ?_⟩) (by assumption) ?_
          rotate_left
          · (intro wq hSw; (try dsimp only at hSw); go_simp; (try with_reducible rfl))
          simp only [Act.put, List.getElem_toArray, List.getElem_cons_zero, List.getElem_cons_succ, List.setIfInBounds_toArray, List.set_cons_zero, List.set_cons_succ]
          refine wpAnyH_take (i := 1) (v := ?_) rfl (by kernel_rfl) (by kernel_rfl) (by kernel_rfl) (fun _ _ _ h => h) (Or.inl ⟨by rfl, ?_⟩) (by assumption) ?_
          rotate_left
          · (intro wq hSw; (try dsimp only at hSw); go_simp; (try with_reducible rfl))
          simp only [Act.put, List.getElem_toArray, List.getElem_cons_zero, List.getElem_cons_succ, List.setIfInBounds_toArray, List.set_cons_zero, List.set_cons_succ]
          refine wpAnyH_take (i := 2) (v := ?_) rfl (by kernel_rfl) (by kernel_rfl) (by kernel_rfl) (fun _ _ _ h => h) (Or.inl ⟨by rfl, ?_⟩) (by assumption) ?_
          rotate_left
          · (intro wq hSw; (try dsimp only at hSw); go_simp; (try with_reducible rfl))
          simp only [Act.put, List.getElem_toArray, List.getElem_cons_zero, List.getElem_cons_succ, List.setIfInBounds_toArray, List.set_cons_zero, List.set_cons_succ]
          refine wpAnyH_take (i := 3) (v := ?_) rfl (by kernel_rfl) (by kernel_rfl) (by kernel_rfl) (fun _ _ _ h => h) (Or.inl ⟨by rfl, ?_⟩) (by assumption) ?_
          rotate_left
          · (intro wq hSw; (try dsimp only at hSw); go_simp; (try with_reducible rfl))
          simp only [Act.put, List.getElem_toArray, List.getElem_cons_zero, List.getElem_cons_succ, List.setIfInBounds_toArray, List.set_cons_zero, List.set_cons_succ]
          refine wpAnyH_take (i := 4) (v := ?_) rfl (by kernel_rfl) (by kernel_rfl) (by kernel_rfl) (fun _ _ _ h => h) (Or.inl ⟨by rfl, ?_⟩) (by assumption) ?_
          rotate_left
          · (intro wq hSw; (try dsimp only at hSw); go_simp; (try with_reducible rfl))
          simp only [Act.put, List.getElem_toArray, List.getElem_cons_zero, List.getElem_cons_succ, List.setIfInBounds_toArray, List.set_cons_zero, List.set_cons_succ]
          refine wpAnyH_take (i := 5) (v := ?_) rfl (by kernel_rfl) (by kernel_rfl) (by kernel_rfl) (fun _ _ _ h => h) (Or.inl ⟨by rfl, ?_⟩) (by assumption) ?_
          rotate_left
          · (intro wq hSw; (try dsimp only at hSw); go_simp; (try with_reducible rfl))
          simp only [Act.put, List.getElem_toArray, List.getElem_cons_zero, List.getElem_cons_succ, List.setIfInBounds_toArray, List.set_cons_zero, List.set_cons_succ]
          refine wpAnyH_take (i := 6) (v := ?_) rfl (by kernel_rfl) (by kernel_rfl) (by kernel_rfl) (fun _ _ _ h => h) (Or.inl ⟨by rfl, ?_⟩) (by assumption) ?_
          rotate_left
          · (intro wq hSw; (try dsimp only at hSw); go_simp; (try with_reducible rfl))
          simp only [Act.put, List.getElem_toArray, List.getElem_cons_zero, List.getElem_cons_succ, List.setIfInBounds_toArray, List.set_cons_zero, List.set_cons_succ]
          refine wpAnyH_take (i := 7) (v := ?_) rfl (by kernel_rfl) (by kernel_rfl) (by kernel_rfl) (fun _ _ _ h => h) (Or.inl ⟨by rfl, ?_⟩) (by assumption) ?_
          rotate_left
          · (intro wq hSw; (try dsimp only at hSw); go_simp; (try with_reducible rfl))
          simp only [Act.put, List.getElem_toArray, List.getElem_cons_zero, List.getElem_cons_succ, List.setIfInBounds_toArray, List.set_cons_zero, List.set_cons_succ]
          refine wpAnyH_take (i := 8) (v := ?_) rfl (by kernel_rfl) (by kernel_rfl) (by kernel_rfl) (fun _ _ _ h => h) (Or.inl ⟨by rfl, ?_⟩) (by assumption) ?_
          rotate_left
          · (intro wq hSw; (try dsimp only at hSw); go_simp; (try with_reducible rfl))
          simp only [Act.put, List.getElem_toArray, List.getElem_cons_zero, List.getElem_cons_succ, List.setIfInBounds_toArray, List.set_cons_zero, List.set_cons_succ]
          refine wpAnyH_take (i := 9) (v := ?_) rfl (by kernel_rfl) (by kernel_rfl) (by kernel_rfl) (fun _ _ _ h => h) (Or.inl ⟨by rfl, ?_⟩) (by assumption) ?_
          rotate_left
          · (intro wq hSw; (try dsimp only at hSw); go_simp; (try with_reducible rfl))
          simp only [Act.put, List.getElem_toArray, List.getElem_cons_zero, List.getElem_cons_succ, List.setIfInBounds_toArray, List.set_cons_zero, List.set_cons_succ]
          refine wpAnyH_take (i := 10) (v := ?_) rfl (by kernel_rfl) (by kernel_rfl) (by kernel_rfl) (fun _ _ _ h => h) (Or.inl ⟨by rfl, ?_⟩) (by assumption) ?_
          rotate_left
          · (intro wq hSw; (try dsimp only at hSw); go_simp; (try with_reducible rfl))
          simp only [Act.put, List.getElem_toArray, List.getElem_cons_zero, List.getElem_cons_succ, List.setIfInBounds_toArray, List.set_cons_zero, List.set_cons_succ]
          refine wpAnyH_ready (rs := [11]) (by kernel_rfl) (by simp) ?_
          refine AllReadyH.cons (by simp only [List.getElem?_toArray, List.getElem?_cons_succ, List.getElem?_cons_zero]; rfl) (fun K hK => ?_) AllReadyH.nil
          (go_simp; go_at_call 9; refine (HRF.out _ _).mono ?_; rintro _ wd ⟨rfl, hcd⟩; have HCC := Lib.hid (HCC.out.trans' hcd); clear hcd; go_simp)
          refine hK.out _ _ ?_ (fun hHeld => ?_)
          · (first | exact HS0.out | exact HKS.out _ HCC.out)
          clear hK K
          (try simp only [Act.put, List.getElem_toArray, List.getElem_cons_zero, List.getElem_cons_succ, List.setIfInBounds_toArray, List.set_cons_zero, List.set_cons_succ])
          refine wpAnyH_done (by kernel_rfl) ?_ _
          change wpList _ _ _ _ _ _
          simp only [List.drop_succ_cons, List.drop_zero]
          go_wp2_with (go_at_call 11; refine (HPU.out _ (HWD.out.trans' HCC.out)).mono ?_; rintro e wm ⟨rfl, hp2, F2, hph2, hhl2⟩)
          go_roundw
          case rel => exact ⟨q + 1, hp2, F2, HNX.out, rfl, Lib.hid (hph2.congr (fun j hj => by
            unfold pM
            by_cases e : j = 12 + q
            · rw [if_pos e, if_pos (by omega), e, show 12 + q - 12 = q by omega, HRE.out]; rfl
            · rw [if_neg e]
              by_cases e2 : 12 ≤ j ∧ j < 12 + q
              · rw [if_pos e2, if_pos (by omega)]
              · rw [if_neg e2, if_neg (by omega)])), Lib.hid hhl2⟩
          case measure => have := HQ.out; simp [intOf, w64]; omega
        · have hq2 : q = k := by omega
          subst hq2
          clear hlt hq
          obtain ⟨k, rfl⟩ : ∃ k, k = q := ⟨_, rfl⟩
          obtain ⟨wo, rfl⟩ : ∃ wo : World, wo = wr := ⟨_, rfl⟩
          cases held with
          | true =>
            obtain ⟨r, hr, hrk⟩ : ∃ r, r = k / 2 ∧ r < k := ⟨_, rfl, by have := HK.out; omega⟩
            have HRK := Lib.hid hrk
            obtain ⟨gl, ol, cl2, hv, p0⟩ := HH.out.li.at (k := r) (by rw [lsR_len]; exact hrk)
            rw [lsR_len] at hv
            cases hv
            rw [lsR_get _ _ hrk] at p0
            obtain ⟨-, -, -, -, -, c5, -⟩ := hpCells HH.out.heap.here
            rw [Nat.zero_add, HPH.out.glob] at c5
            have HS0 : Hid (wo.cell? ⟨bh, 5, none⟩ = some (.int .i64 (hR 11)) ∧ wo.cell? ⟨gl, ol + r, none⟩ = some (.int .i64 (hR (12 + r)))) := Lib.hid ⟨c5, p0⟩
            have kd : (k : Int) / 2 = (r : Int) := by omega
            have kd3 : IntKind.i64.wrap (r : Int) = (r : Int) := IntWalk.i64_in _ (by omega)
            have kd2 : ((k : Int)).tdiv 2 = (r : Int) := by rw [hr]; exact tdiv_two k
            have r0 : (0 : Int) ≤ (r : Int) := by omega
            have r1 : (r : Int) < (k : Int) := by omega
            have HRF := Lib.hid (fun (h : Int) (W : World) => vref_any h W)
            have HPU := Lib.hid (fun (W : World) (hc : Chg (fun _ => False) wo W) => put_step w W bh _ (lsR k) F 11 r xB (HH.out.still hc) HPH.out (by have := HK.out; omega) (by omega) (by have := HRK.out; omega) (by unfold pM; rw [if_neg (by omega)]))
            have HRE : Hid (r = k / 2) := Lib.hid hr
            clear c5 p0 hr hrk
            go_upto_region 16 with fail
            refine wp_region_held_split 8 (fun w' => w'.cell? ⟨bh, 5, none⟩ = some (.int .i64 (hR 11)) ∧ w'.cell? ⟨gl, ol + r, none⟩ = some (.int .i64 (hR (12 + r)))) (by kernel_rfl) (by kernel_rfl) ?_ (fun hHeld => ?_)
            · (first | exact HS0.out | exact HKS.out _ HCC.out)
            simp only [List.take_succ_cons, List.take_zero]
            have HKS : Hid (∀ W, Chg (fun _ => False) wo.drew W → W.cell? ⟨bh, 5, none⟩ = some (.int .i64 (hR 11)) ∧ W.cell? ⟨gl, ol + r, none⟩ = some (.int .i64 (hR (12 + r)))) := Lib.hid (fun W hc => ⟨hc.cell HS0.out.1, hc.cell HS0.out.2⟩)
            have HWD : Hid (Chg (fun _ => False) wo wo.drew) := Lib.hid (Chg.refl _ wo).drewR
            generalize wo.drew = wD at *
            have HCC := Lib.hid (Chg.refl (fun _ => False) wD)
            refine wpAnyH_take (i := 0) (v := ?_) rfl (by kernel_rfl) (by kernel_rfl) (by kernel_rfl) (fun _ _ _ h => h) (Or.inl ⟨by rfl, ?_⟩) (by assumption) ?_
            rotate_left
            · (intro wq hSw; (try dsimp only at hSw); go_simp; (try with_reducible rfl))
            simp only [Act.put, List.getElem_toArray, List.getElem_cons_zero, List.getElem_cons_succ, List.setIfInBounds_toArray, List.set_cons_zero, List.set_cons_succ]
            refine wpAnyH_take (i := 1) (v := ?_) rfl (by kernel_rfl) (by kernel_rfl) (by kernel_rfl) (fun _ _ _ h => h) (Or.inl ⟨by rfl, ?_⟩) (by assumption) ?_
            rotate_left
            · (intro wq hSw; (try dsimp only at hSw); go_simp; (try with_reducible rfl))
            simp only [Act.put, List.getElem_toArray, List.getElem_cons_zero, List.getElem_cons_succ, List.setIfInBounds_toArray, List.set_cons_zero, List.set_cons_succ]
            refine wpAnyH_take (i := 2) (v := ?_) rfl (by kernel_rfl) (by kernel_rfl) (by kernel_rfl) (fun _ _ _ h => h) (Or.inl ⟨by rfl, ?_⟩) (by assumption) ?_
            rotate_left
            · (intro wq hSw; (try dsimp only at hSw); go_simp; (try with_reducible rfl))
            simp only [Act.put, List.getElem_toArray, List.getElem_cons_zero, List.getElem_cons_succ, List.setIfInBounds_toArray, List.set_cons_zero, List.set_cons_succ]
            refine wpAnyH_take (i := 3) (v := ?_) rfl (by kernel_rfl) (by kernel_rfl) (by kernel_rfl) (fun _ _ _ h => h) (Or.inl ⟨by rfl, ?_⟩) (by assumption) ?_
            rotate_left
            · (intro wq hSw; (try dsimp only at hSw); go_simp; (try with_reducible rfl))
            simp only [Act.put, List.getElem_toArray, List.getElem_cons_zero, List.getElem_cons_succ, List.setIfInBounds_toArray, List.set_cons_zero, List.set_cons_succ]
            refine wpAnyH_take (i := 4) (v := ?_) rfl (by kernel_rfl) (by kernel_rfl) (by kernel_rfl) (fun _ _ _ h => h) (Or.inl ⟨by rfl, ?_⟩) (by assumption) ?_
            rotate_left
            · (intro wq hSw; (try dsimp only at hSw); go_simp; (try with_reducible rfl))
            simp only [Act.put, List.getElem_toArray, List.getElem_cons_zero, List.getElem_cons_succ, List.setIfInBounds_toArray, List.set_cons_zero, List.set_cons_succ]
            refine wpAnyH_take (i := 5) (v := ?_) rfl (by kernel_rfl) (by kernel_rfl) (by kernel_rfl) (fun _ _ _ h => h) (Or.inl ⟨by rfl, ?_⟩) (by assumption) ?_
            rotate_left
            · (intro wq hSw; (try dsimp only at hSw); go_simp; (try with_reducible rfl))
            simp only [Act.put, List.getElem_toArray, List.getElem_cons_zero, List.getElem_cons_succ, List.setIfInBounds_toArray, List.set_cons_zero, List.set_cons_succ]
            refine wpAnyH_take (i := 6) (v := ?_) rfl (by kernel_rfl) (by kernel_rfl) (by kernel_rfl) (fun _ _ _ h => h) (Or.inl ⟨by rfl, ?_⟩) (by assumption) ?_
            rotate_left
            · (intro wq hSw; (try dsimp only at hSw); go_simp; (try with_reducible rfl))
            simp only [Act.put, List.getElem_toArray, List.getElem_cons_zero, List.getElem_cons_succ, List.setIfInBounds_toArray, List.set_cons_zero, List.set_cons_succ]
            refine wpAnyH_ready (rs := [7]) (by kernel_rfl) (by simp) ?_
            refine AllReadyH.cons (by simp only [List.getElem?_toArray, List.getElem?_cons_succ, List.getElem?_cons_zero]; rfl) (fun K hK => ?_) AllReadyH.nil
            (go_simp; go_at_call 9; refine (HRF.out _ _).mono ?_; rintro _ wd ⟨rfl, hcd⟩; have HCC := Lib.hid (HCC.out.trans' hcd); clear hcd; go_simp)
            refine hK.out _ _ ?_ (fun hHeld => ?_)
            · (first | exact HS0.out | exact HKS.out _ HCC.out)
            clear hK K
            (try simp only [Act.put, List.getElem_toArray, List.getElem_cons_zero, List.getElem_cons_succ, List.setIfInBounds_toArray, List.set_cons_zero, List.set_cons_succ])
            refine wpAnyH_done (by kernel_rfl) ?_ _
            change wpList _ _ _ _ _ _
            simp only [List.drop_succ_cons, List.drop_zero]
            go_wp2_with (go_at_call 11; refine (HPU.out _ (HWD.out.trans' HCC.out)).mono ?_; rintro e wm ⟨rfl, hp2, F2, hph2, hhl2⟩)
            have HPF : Hid (PH k (pF k true) hp2) := Lib.hid (hph2.congr (fun j hj => by
              unfold pF
              by_cases e : j = 11
              · subst e; simp [xP, HRE.out]
              · rw [if_neg e, if_neg e]))
            have HHF := Lib.hid hhl2
            clear HRF HPU HS0 hph2 hhl2 HCC HWD HKS
            clear HPH HH
            go_upto_region 19 with fail
            have hcs : Chg (fun _ => False) wm ((wm.alloc (.cells #[.slice none 0 0, .bool false] 46)).alloc (.cells #[.slice none 0 0] 49)) := (Chg.alloc _ _ _).allocR _
            have b1 := (Chg.alloc (fun _ => False) (wm.alloc (.cells #[.slice none 0 0, .bool false] 46)) (.cells #[.slice none 0 0] 49)).keep (alloc_block wm (.cells #[.slice none 0 0, .bool false] 46)) (fun x => x)
            have b2 := alloc_block (wm.alloc (.cells #[.slice none 0 0, .bool false] 46)) (.cells #[.slice none 0 0] 49)
            rw [World.size_alloc] at b2
            have HSH : Hid (Here (frmR.row 106) ((wm.alloc (.cells #[.slice none 0 0, .bool false] 46)).alloc (.cells #[.slice none 0 0] 49)) wm.heap.size 0 [] []) := Lib.hid ⟨⟨_, _, b1, ⟨_, [], [], rfl, RowAt.nil _ _ _, .nil, rfl⟩⟩, by simp, List.nodup_nil⟩
            have HJH : Hid (Here (jobR.row 88) ((wm.alloc (.cells #[.slice none 0 0, .bool false] 46)).alloc (.cells #[.slice none 0 0] 49)) (wm.heap.size + 1) 0 [] []) := Lib.hid ⟨⟨_, _, b2, ⟨_, [], [], rfl, RowAt.nil _ _ _, .nil, rfl⟩⟩, by simp, List.nodup_nil⟩
            have HH3 := Lib.hid (HHF.out.still hcs)
            clear hcs b1 b2 HHF
            generalize (wm.alloc (.cells #[.slice none 0 0, .bool false] 46)).alloc (.cells #[.slice none 0 0] 49) = w3 at *
            generalize wm.heap.size + 1 = bj at *
            generalize wm.heap.size = bs at *
            have hI := pF_in k (by have := HK.out; omega) true
            have HOKH := Lib.hid (HPF.out.ok (by have := HK.out; omega) hI)
            have HKOK := Lib.hid (HPF.out.kok (by have := HK.out; omega) hI).1
            have HCNT := Lib.hid (HPF.out.cnt (by have := HK.out; omega) (by have := HK.out; omega))
            have HSW := Lib.hid (fun q hq => HPF.out.swept (by have := HK.out; omega) (by have := HK.out; omega) (q := q) hq)
            have HRO := Lib.hid (roots_any w3 bh bs bj hp2 F2 [] [] [] [] HH3.out.heap.here HSH.out HJH.out (by rw [HPF.out.prot]; decide) (by simp) (by simp) (by simp) (by simp) (by
              unfold rootsL
              rw [HPF.out.glob, HPF.out.text, HPF.out.prot]
              decide))
            rw [HPF.out.roots] at HRO
            have HLV := Lib.hid (fun (W : World) (v : Value) (hO : OutI w3 W v (sysR.map hR)) => live_any W bh hp2 F2 v .nilFunc (sysR.map hR) noW (HH3.out.heap.here.still hO.chg) HOKH.out hO.row (by decide) (by intro r hr; obtain ⟨i, hi, rfl⟩ := List.mem_map.1 hr; have := sysR_lt i hi; rw [hR_eq (by omega)]; exact ⟨by omega, by omega⟩) (.inl ⟨rfl, rfl⟩))
            have HSP := Lib.hid (fun (W : World) (v : Value) (hO : OutI w3 W v ((liveR_ hp2).map fun i => handleM hp2.base hp2.stride (i : Nat))) => sweep_any W bh hp2 F2 (liveR_ hp2) v (HH3.out.heap.here.still hO.chg) HOKH.out HKOK.out (by have h := hO.row; rwa [List.length_map] at h) (by rw [HPF.out.len]; have := HK.out; omega) (by rw [HPF.out.free]; simp) (by rw [HPF.out.live, HPF.out.len]) (by rw [HPF.out.len]; omega))
            rw [HCNT.out] at HSP
            clear hI HSH HJH
            go_upto_region 20 with (first
              | (go_at_call 13; refine HRO.out.mono ?_; rintro e w4 ⟨v4, rfl, HO4⟩)
              | (go_at_call 10; refine (HLV.out _ _ HO4).mono ?_; rintro e w5 ⟨v5, rfl, HO5⟩; have HO6 : OutI w3 w5 v5 _ := ⟨HO5.row, (fun k hk => Nat.le_trans HO4.chg.size (HO5.lo k hk)), HO4.chg.trans' HO5.chg⟩)
              | (go_at_call 12; refine (HSP.out _ _ HO6).mono ?_; rintro e w6 ⟨rfl, hpo⟩))
            obtain ⟨F6, hh6⟩ := (HH3.out.still HO6.chg).heapS hpo
            have HH6 := Lib.hid hh6
            clear hpo hh6 HO4 HO5 HO6 HRO HLV HSP HKOK HOKH HH3 HPF
            generalize sweepM hp2 (liveR_ hp2) = hpS at *
            go_wp2_with fail
            go_loopw [15, 16, 17] (fun u15 _ _ wr => ∃ (q : Nat), q ≤ k ∧ u15 = .int .i64 q ∧ Hid (Chg (fun _ => False) w6 wr)) (fun u15 _ _ _ => k - (intOf u15).toNat)
            case atStart => exact ⟨0, by omega, rfl, Lib.hid (Chg.refl _ _)⟩
            case round =>
              rename World => wr
              obtain ⟨q, hq, rfl, HCR⟩ := hrel
              by_cases hlt : q < k
              · have q0 : (0 : Int) ≤ (q : Int) := by omega
                have q1 : (q : Int) < (k : Int) := by omega
                have w64 : IntKind.i64.wrap ((q : Int) + 1) = ((q + 1 : Nat) : Int) := IntWalk.i64_in _ (by have := HK.out; omega)
                have HLT := Lib.hid hlt
                have HNX := Lib.hid (show q + 1 ≤ k from hlt)
                have HHR := Lib.hid (HH6.out.still HCR.out)
                obtain ⟨gl, ol, cl2, hv, p0⟩ := HHR.out.li.at (k := q) (by rw [lsR_len]; exact hlt)
                rw [lsR_len] at hv
                cases hv
                rw [lsR_get _ _ hlt] at p0
                have hsw := HSW.out q hlt
                simp only [if_true] at hsw
                obtain ⟨hl6, hs6, ho6⟩ := hsw
                obtain ⟨r, hr, hrk⟩ : ∃ r, r = (q + 1) % k ∧ r < k := ⟨_, rfl, Nat.mod_lt _ (by omega)⟩
                have how := own_has wr bh hpS F6 (hR (12 + q)) (12 + q) nextB 0 HHR.out.heap.here (hR_in (by have := HK.out; omega)) hs6 hl6 (by rw [ho6]; show (0 : Int) ≠ 1; omega) (by rw [ho6]; show (if (nextB.toList == nextB.toList) = true then some 0 else findP nextB [] 1) = some 0; rw [if_pos (by simp)]) (by rw [ho6]; exact Nat.zero_lt_one) (by rw [ho6]; show 1 ≤ 1000000; omega)
                have e0 : hpS.slots[12 + q].obj.props[0]? = some (nxP k q) := by rw [ho6]; rfl
                have e1 : ∀ (hh : 0 < hpS.slots[12 + q].obj.props.length), hpS.slots[12 + q].obj.props[0] = nxP k q := fun hh => by rw [List.getElem?_eq_getElem hh] at e0; exact Option.some.inj e0
                rw [e1, show (nxP k q).vkind = 5 from rfl, show (nxP k q).vint = 0 from rfl, show (nxP k q).vstr = ⟨#[]⟩ from rfl, show (nxP k q).vref = hR (12 + r) by rw [hr]; rfl] at how
                have HOW := Lib.hid how
                clear how e0 e1 hs6 ho6 hl6
                obtain ⟨gl2, ol2, cl3, hv, p1⟩ := HHR.out.li.at (k := r) (by rw [lsR_len]; exact hrk)
                rw [lsR_len] at hv
                cases hv
                rw [lsR_get _ _ hrk] at p1
                have HP1 := Lib.hid p1
                have tr : ((q : Int) + 1).tmod (k : Int) = (r : Int) := by rw [hr]; exact tmod_nat (q + 1) k
                have tr2 : ((q : Int) + 1) % (k : Int) = (r : Int) := by rw [hr]; rfl
                have r0 : (0 : Int) ≤ (r : Int) := by omega
                have r1 : (r : Int) < (k : Int) := by omega
                have z1 : ¬ k = 0 := by omega
                have hrx := Lib.hid hr
                clear hr hrk p1
                unfold nextB at HOW
                go_upto_region 24 with (go_at_call 14; refine HOW.out.mono ?_; rintro e wo_ ⟨rfl, hco⟩)
                have hb16 := alloc_block wo_ (.cells #[.int .i64 5, .int .i64 0, .string ⟨#[]⟩, .int .i64 (hR (12 + r))] 38)
                have HCO := Lib.hid (hco.trans' (Chg.alloc (fun _ => False) wo_ (.cells #[.int .i64 5, .int .i64 0, .string ⟨#[]⟩, .int .i64 (hR (12 + r))] 38)))
                generalize wo_.alloc (.cells #[.int .i64 5, .int .i64 0, .string ⟨#[]⟩, .int .i64 (hR (12 + r))] 38) = w8 at *
                generalize wo_.heap.size = b16 at *
                have m0 := cell_of_block (i := 0) hb16 rfl
                have m1 := cell_of_block (i := 1) hb16 rfl
                have m2 := cell_of_block (i := 2) hb16 rfl
                have m3 := cell_of_block (i := 3) hb16 rfl
                simp only [List.getElem_toArray, List.getElem_cons_zero, List.getElem_cons_succ] at m0 m1 m2 m3
                have HS0 : Hid (w8.cell? ⟨b16, 0, none⟩ = some (.int .i64 5) ∧ w8.cell? ⟨b16, 1, none⟩ = some (.int .i64 0) ∧ w8.cell? ⟨b16, 2, none⟩ = some (.string ⟨#[]⟩) ∧ w8.cell? ⟨b16, 3, none⟩ = some (.int .i64 (hR (12 + r))) ∧ w8.cell? ⟨gl, ol + r, none⟩ = some (.int .i64 (hR (12 + r)))) := Lib.hid ⟨m0, m1, m2, m3, HCO.out.cell HP1.out⟩
                have HRF := Lib.hid (fun (h : Int) (W : World) => vref_any h W)
                clear m0 m1 m2 m3 hb16 hco p0
                refine wp_region_held_split 17 (fun w' => w'.cell? ⟨b16, 0, none⟩ = some (.int .i64 5) ∧ w'.cell? ⟨b16, 1, none⟩ = some (.int .i64 0) ∧ w'.cell? ⟨b16, 2, none⟩ = some (.string ⟨#[]⟩) ∧ w'.cell? ⟨b16, 3, none⟩ = some (.int .i64 (hR (12 + r))) ∧ w'.cell? ⟨gl, ol + r, none⟩ = some (.int .i64 (hR (12 + r)))) (by kernel_rfl) (by kernel_rfl) ?_ (fun hHeld => ?_)
                · (first | exact HS0.out | exact HKS.out _ HCC.out)
                simp only [List.take_succ_cons, List.take_zero]
                have HKS : Hid (∀ W, Chg (fun _ => False) w8.drew W → W.cell? ⟨b16, 0, none⟩ = some (.int .i64 5) ∧ W.cell? ⟨b16, 1, none⟩ = some (.int .i64 0) ∧ W.cell? ⟨b16, 2, none⟩ = some (.string ⟨#[]⟩) ∧ W.cell? ⟨b16, 3, none⟩ = some (.int .i64 (hR (12 + r))) ∧ W.cell? ⟨gl, ol + r, none⟩ = some (.int .i64 (hR (12 + r)))) := Lib.hid (fun W hc => ⟨hc.cell HS0.out.1, hc.cell HS0.out.2.1, hc.cell HS0.out.2.2.1, hc.cell HS0.out.2.2.2.1, hc.cell HS0.out.2.2.2.2⟩)
                have HWD : Hid (Chg (fun _ => False) w8 w8.drew) := Lib.hid (Chg.refl _ w8).drewR
                generalize w8.drew = wD at *
                have HCC := Lib.hid (Chg.refl (fun _ => False) wD)
                refine wpAnyH_take (i := 0) (v := ?_) rfl (by kernel_rfl) (by kernel_rfl) (by kernel_rfl) (fun _ _ _ h => h) (Or.inl ⟨by rfl, ?_⟩) (by assumption) ?_
                rotate_left
                · (intro wq hSw; (try dsimp only at hSw); go_simp; (try with_reducible rfl))
                simp only [Act.put, List.getElem_toArray, List.getElem_cons_zero, List.getElem_cons_succ, List.setIfInBounds_toArray, List.set_cons_zero, List.set_cons_succ]
                refine wpAnyH_take (i := 1) (v := ?_) rfl (by kernel_rfl) (by kernel_rfl) (by kernel_rfl) (fun _ _ _ h => h) (Or.inl ⟨by rfl, ?_⟩) (by assumption) ?_
                rotate_left
                · (intro wq hSw; (try dsimp only at hSw); go_simp; (try with_reducible rfl))
                simp only [Act.put, List.getElem_toArray, List.getElem_cons_zero, List.getElem_cons_succ, List.setIfInBounds_toArray, List.set_cons_zero, List.set_cons_succ]
                refine wpAnyH_take (i := 2) (v := ?_) rfl (by kernel_rfl) (by kernel_rfl) (by kernel_rfl) (fun _ _ _ h => h) (Or.inl ⟨by rfl, ?_⟩) (by assumption) ?_
                rotate_left
                · (intro wq hSw; (try dsimp only at hSw); go_simp; (try with_reducible rfl))
                simp only [Act.put, List.getElem_toArray, List.getElem_cons_zero, List.getElem_cons_succ, List.setIfInBounds_toArray, List.set_cons_zero, List.set_cons_succ]
                refine wpAnyH_take (i := 3) (v := ?_) rfl (by kernel_rfl) (by kernel_rfl) (by kernel_rfl) (fun _ _ _ h => h) (Or.inl ⟨by rfl, ?_⟩) (by assumption) ?_
                rotate_left
                · (intro wq hSw; (try dsimp only at hSw); go_simp; (try with_reducible rfl))
                simp only [Act.put, List.getElem_toArray, List.getElem_cons_zero, List.getElem_cons_succ, List.setIfInBounds_toArray, List.set_cons_zero, List.set_cons_succ]
                first
                | (refine wpAnyH_take (i := 4) (v := undef) rfl (by kernel_rfl) (by kernel_rfl) (by kernel_rfl) (fun _ _ _ h => h) (Or.inr ⟨by rfl, rfl⟩) (by assumption) ?_)
                | (refine wpAnyH_take (i := 4) (v := ?_) rfl (by kernel_rfl) (by kernel_rfl) (by kernel_rfl) (fun _ _ _ h => h) (Or.inl ⟨by rfl, ?_⟩) (by assumption) ?_; rotate_left; (focus (intro wq hSw; (try dsimp only at hSw); go_simp; (try with_reducible rfl))))
                simp only [Act.put, List.getElem_toArray, List.getElem_cons_zero, List.getElem_cons_succ, List.setIfInBounds_toArray, List.set_cons_zero, List.set_cons_succ]
                first
                | (refine wpAnyH_take (i := 5) (v := undef) rfl (by kernel_rfl) (by kernel_rfl) (by kernel_rfl) (fun _ _ _ h => h) (Or.inr ⟨by rfl, rfl⟩) (by assumption) ?_)
                | (refine wpAnyH_take (i := 5) (v := ?_) rfl (by kernel_rfl) (by kernel_rfl) (by kernel_rfl) (fun _ _ _ h => h) (Or.inl ⟨by rfl, ?_⟩) (by assumption) ?_; rotate_left; (focus (intro wq hSw; (try dsimp only at hSw); go_simp; (try with_reducible rfl))))
                simp only [Act.put, List.getElem_toArray, List.getElem_cons_zero, List.getElem_cons_succ, List.setIfInBounds_toArray, List.set_cons_zero, List.set_cons_succ]
                first
                | (refine wpAnyH_take (i := 6) (v := undef) rfl (by kernel_rfl) (by kernel_rfl) (by kernel_rfl) (fun _ _ _ h => h) (Or.inr ⟨by rfl, rfl⟩) (by assumption) ?_)
                | (refine wpAnyH_take (i := 6) (v := ?_) rfl (by kernel_rfl) (by kernel_rfl) (by kernel_rfl) (fun _ _ _ h => h) (Or.inl ⟨by rfl, ?_⟩) (by assumption) ?_; rotate_left; (focus (intro wq hSw; (try dsimp only at hSw); go_simp; (try with_reducible rfl))))
                simp only [Act.put, List.getElem_toArray, List.getElem_cons_zero, List.getElem_cons_succ, List.setIfInBounds_toArray, List.set_cons_zero, List.set_cons_succ]
                first
                | (refine wpAnyH_take (i := 7) (v := undef) rfl (by kernel_rfl) (by kernel_rfl) (by kernel_rfl) (fun _ _ _ h => h) (Or.inr ⟨by rfl, rfl⟩) (by assumption) ?_)
                | (refine wpAnyH_take (i := 7) (v := ?_) rfl (by kernel_rfl) (by kernel_rfl) (by kernel_rfl) (fun _ _ _ h => h) (Or.inl ⟨by rfl, ?_⟩) (by assumption) ?_; rotate_left; (focus (intro wq hSw; (try dsimp only at hSw); go_simp; (try with_reducible rfl))))
                simp only [Act.put, List.getElem_toArray, List.getElem_cons_zero, List.getElem_cons_succ, List.setIfInBounds_toArray, List.set_cons_zero, List.set_cons_succ]
                first
                | (refine wpAnyH_take (i := 8) (v := undef) rfl (by kernel_rfl) (by kernel_rfl) (by kernel_rfl) (fun _ _ _ h => h) (Or.inr ⟨by rfl, rfl⟩) (by assumption) ?_)
                | (refine wpAnyH_take (i := 8) (v := ?_) rfl (by kernel_rfl) (by kernel_rfl) (by kernel_rfl) (fun _ _ _ h => h) (Or.inl ⟨by rfl, ?_⟩) (by assumption) ?_; rotate_left; (focus (intro wq hSw; (try dsimp only at hSw); go_simp; (try with_reducible rfl))))
                simp only [Act.put, List.getElem_toArray, List.getElem_cons_zero, List.getElem_cons_succ, List.setIfInBounds_toArray, List.set_cons_zero, List.set_cons_succ]
                first
                | (refine wpAnyH_take (i := 9) (v := undef) rfl (by kernel_rfl) (by kernel_rfl) (by kernel_rfl) (fun _ _ _ h => h) (Or.inr ⟨by rfl, rfl⟩) (by assumption) ?_)
                | (refine wpAnyH_take (i := 9) (v := ?_) rfl (by kernel_rfl) (by kernel_rfl) (by kernel_rfl) (fun _ _ _ h => h) (Or.inl ⟨by rfl, ?_⟩) (by assumption) ?_; rotate_left; (focus (intro wq hSw; (try dsimp only at hSw); go_simp; (try with_reducible rfl))))
                simp only [Act.put, List.getElem_toArray, List.getElem_cons_zero, List.getElem_cons_succ, List.setIfInBounds_toArray, List.set_cons_zero, List.set_cons_succ]
                first
                | (refine wpAnyH_take (i := 10) (v := undef) rfl (by kernel_rfl) (by kernel_rfl) (by kernel_rfl) (fun _ _ _ h => h) (Or.inr ⟨by rfl, rfl⟩) (by assumption) ?_)
                | (refine wpAnyH_take (i := 10) (v := ?_) rfl (by kernel_rfl) (by kernel_rfl) (by kernel_rfl) (fun _ _ _ h => h) (Or.inl ⟨by rfl, ?_⟩) (by assumption) ?_; rotate_left; (focus (intro wq hSw; (try dsimp only at hSw); go_simp; (try with_reducible rfl))))
                simp only [Act.put, List.getElem_toArray, List.getElem_cons_zero, List.getElem_cons_succ, List.setIfInBounds_toArray, List.set_cons_zero, List.set_cons_succ]
                first
                | (refine wpAnyH_take (i := 11) (v := undef) rfl (by kernel_rfl) (by kernel_rfl) (by kernel_rfl) (fun _ _ _ h => h) (Or.inr ⟨by rfl, rfl⟩) (by assumption) ?_)
                | (refine wpAnyH_take (i := 11) (v := ?_) rfl (by kernel_rfl) (by kernel_rfl) (by kernel_rfl) (fun _ _ _ h => h) (Or.inl ⟨by rfl, ?_⟩) (by assumption) ?_; rotate_left; (focus (intro wq hSw; (try dsimp only at hSw); go_simp; (try with_reducible rfl))))
                simp only [Act.put, List.getElem_toArray, List.getElem_cons_zero, List.getElem_cons_succ, List.setIfInBounds_toArray, List.set_cons_zero, List.set_cons_succ]
                first
                | (refine wpAnyH_take (i := 12) (v := undef) rfl (by kernel_rfl) (by kernel_rfl) (by kernel_rfl) (fun _ _ _ h => h) (Or.inr ⟨by rfl, rfl⟩) (by assumption) ?_)
                | (refine wpAnyH_take (i := 12) (v := ?_) rfl (by kernel_rfl) (by kernel_rfl) (by kernel_rfl) (fun _ _ _ h => h) (Or.inl ⟨by rfl, ?_⟩) (by assumption) ?_; rotate_left; (focus (intro wq hSw; (try dsimp only at hSw); go_simp; (try with_reducible rfl))))
                simp only [Act.put, List.getElem_toArray, List.getElem_cons_zero, List.getElem_cons_succ, List.setIfInBounds_toArray, List.set_cons_zero, List.set_cons_succ]
                first
                | (refine wpAnyH_take (i := 13) (v := undef) rfl (by kernel_rfl) (by kernel_rfl) (by kernel_rfl) (fun _ _ _ h => h) (Or.inr ⟨by rfl, rfl⟩) (by assumption) ?_)
                | (refine wpAnyH_take (i := 13) (v := ?_) rfl (by kernel_rfl) (by kernel_rfl) (by kernel_rfl) (fun _ _ _ h => h) (Or.inl ⟨by rfl, ?_⟩) (by assumption) ?_; rotate_left; (focus (intro wq hSw; (try dsimp only at hSw); go_simp; (try with_reducible rfl))))
                simp only [Act.put, List.getElem_toArray, List.getElem_cons_zero, List.getElem_cons_succ, List.setIfInBounds_toArray, List.set_cons_zero, List.set_cons_succ]
                refine wpAnyH_ready (rs := [14]) (by kernel_rfl) (by simp) ?_
                refine AllReadyH.cons (by simp only [List.getElem?_toArray, List.getElem?_cons_succ, List.getElem?_cons_zero]; rfl) (fun K hK => ?_) AllReadyH.nil
                (go_simp; go_at_call 9; refine (HRF.out _ _).mono ?_; rintro _ wd ⟨rfl, hcd⟩; have HCC := Lib.hid (HCC.out.trans' hcd); clear hcd; go_simp)
                refine hK.out _ _ ?_ (fun hHeld => ?_)
                · (first | exact HS0.out | exact HKS.out _ HCC.out)
                clear hK K
                (try simp only [Act.put, List.getElem_toArray, List.getElem_cons_zero, List.getElem_cons_succ, List.setIfInBounds_toArray, List.set_cons_zero, List.set_cons_succ])
                first
                | (refine wpAnyH_take (i := 15) (v := undef) rfl (by kernel_rfl) (by kernel_rfl) (by kernel_rfl) (fun _ _ _ h => h) (Or.inr ⟨by rfl, rfl⟩) (by assumption) ?_)
                | (refine wpAnyH_take (i := 15) (v := ?_) rfl (by kernel_rfl) (by kernel_rfl) (by kernel_rfl) (fun _ _ _ h => h) (Or.inl ⟨by rfl, ?_⟩) (by assumption) ?_; rotate_left; (focus (intro wq hSw; (try dsimp only at hSw); go_simp; (try with_reducible rfl))))
                simp only [Act.put, List.getElem_toArray, List.getElem_cons_zero, List.getElem_cons_succ, List.setIfInBounds_toArray, List.set_cons_zero, List.set_cons_succ]
                first
                | (refine wpAnyH_take (i := 16) (v := undef) rfl (by kernel_rfl) (by kernel_rfl) (by kernel_rfl) (fun _ _ _ h => h) (Or.inr ⟨by rfl, rfl⟩) (by assumption) ?_)
                | (refine wpAnyH_take (i := 16) (v := ?_) rfl (by kernel_rfl) (by kernel_rfl) (by kernel_rfl) (fun _ _ _ h => h) (Or.inl ⟨by rfl, ?_⟩) (by assumption) ?_; rotate_left; (focus (intro wq hSw; (try dsimp only at hSw); go_simp; (try with_reducible rfl))))
                simp only [Act.put, List.getElem_toArray, List.getElem_cons_zero, List.getElem_cons_succ, List.setIfInBounds_toArray, List.set_cons_zero, List.set_cons_succ]
                refine wpAnyH_done (by kernel_rfl) ?_ _
                change wpList _ _ _ _ _ _
                simp only [List.drop_succ_cons, List.drop_zero]
                go_wp2_with fail
                go_roundw
                case rel => exact ⟨q + 1, HNX.out, rfl, Lib.hid (HCR.out.trans' (HCO.out.trans' (HWD.out.trans' HCC.out)))⟩
                case measure => have := HLT.out; simp [intOf, w64]; omega
              · have hq2 : q = k := by omega
                subst hq2
                clear hlt hq
                go_wp2_with fail
                go_ret
                exact ⟨rfl, (HH6.out.heap.chg.trans' HCR.out).below (Nat.le_refl _) (fun _ h => h.elim)⟩
          | false =>
            have hp2 := hp
            have HPF : Hid (PH k (pF k false) hp) := Lib.hid (HPH.out.congr (fun j hj => by
              unfold pF
              by_cases e : j = 11
              · subst e; unfold pM; simp
              · rw [if_neg e]))
            have HHF := HH
            obtain ⟨wm, rfl⟩ : ∃ wm : World, wm = wo := ⟨_, rfl⟩
            obtain ⟨F2, rfl⟩ : ∃ F2, F2 = F := ⟨_, rfl⟩
            clear hp2
            obtain ⟨hp2, rfl⟩ : ∃ hp2, hp2 = hp := ⟨_, rfl⟩
            clear HPH HH
            go_upto_region 19 with fail
            have hcs : Chg (fun _ => False) wm ((wm.alloc (.cells #[.slice none 0 0, .bool false] 46)).alloc (.cells #[.slice none 0 0] 49)) := (Chg.alloc _ _ _).allocR _
            have b1 := (Chg.alloc (fun _ => False) (wm.alloc (.cells #[.slice none 0 0, .bool false] 46)) (.cells #[.slice none 0 0] 49)).keep (alloc_block wm (.cells #[.slice none 0 0, .bool false] 46)) (fun x => x)
            have b2 := alloc_block (wm.alloc (.cells #[.slice none 0 0, .bool false] 46)) (.cells #[.slice none 0 0] 49)
            rw [World.size_alloc] at b2
            have HSH : Hid (Here (frmR.row 106) ((wm.alloc (.cells #[.slice none 0 0, .bool false] 46)).alloc (.cells #[.slice none 0 0] 49)) wm.heap.size 0 [] []) := Lib.hid ⟨⟨_, _, b1, ⟨_, [], [], rfl, RowAt.nil _ _ _, .nil, rfl⟩⟩, by simp, List.nodup_nil⟩
            have HJH : Hid (Here (jobR.row 88) ((wm.alloc (.cells #[.slice none 0 0, .bool false] 46)).alloc (.cells #[.slice none 0 0] 49)) (wm.heap.size + 1) 0 [] []) := Lib.hid ⟨⟨_, _, b2, ⟨_, [], [], rfl, RowAt.nil _ _ _, .nil, rfl⟩⟩, by simp, List.nodup_nil⟩
            have HH3 := Lib.hid (HHF.out.still hcs)
            clear hcs b1 b2 HHF
            generalize (wm.alloc (.cells #[.slice none 0 0, .bool false] 46)).alloc (.cells #[.slice none 0 0] 49) = w3 at *
            generalize wm.heap.size + 1 = bj at *
            generalize wm.heap.size = bs at *
            have hI := pF_in k (by have := HK.out; omega) false
            have HOKH := Lib.hid (HPF.out.ok (by have := HK.out; omega) hI)
            have HKOK := Lib.hid (HPF.out.kok (by have := HK.out; omega) hI).1
            have HCNT := Lib.hid (HPF.out.cnt (by have := HK.out; omega) (by have := HK.out; omega))
            have HSW := Lib.hid (fun q hq => HPF.out.swept (by have := HK.out; omega) (by have := HK.out; omega) (q := q) hq)
            have HRO := Lib.hid (roots_any w3 bh bs bj hp2 F2 [] [] [] [] HH3.out.heap.here HSH.out HJH.out (by rw [HPF.out.prot]; decide) (by simp) (by simp) (by simp) (by simp) (by
              unfold rootsL
              rw [HPF.out.glob, HPF.out.text, HPF.out.prot]
              decide))
            rw [HPF.out.roots] at HRO
            have HLV := Lib.hid (fun (W : World) (v : Value) (hO : OutI w3 W v (sysR.map hR)) => live_any W bh hp2 F2 v .nilFunc (sysR.map hR) noW (HH3.out.heap.here.still hO.chg) HOKH.out hO.row (by decide) (by intro r hr; obtain ⟨i, hi, rfl⟩ := List.mem_map.1 hr; have := sysR_lt i hi; rw [hR_eq (by omega)]; exact ⟨by omega, by omega⟩) (.inl ⟨rfl, rfl⟩))
            have HSP := Lib.hid (fun (W : World) (v : Value) (hO : OutI w3 W v ((liveR_ hp2).map fun i => handleM hp2.base hp2.stride (i : Nat))) => sweep_any W bh hp2 F2 (liveR_ hp2) v (HH3.out.heap.here.still hO.chg) HOKH.out HKOK.out (by have h := hO.row; rwa [List.length_map] at h) (by rw [HPF.out.len]; have := HK.out; omega) (by rw [HPF.out.free]; simp) (by rw [HPF.out.live, HPF.out.len]) (by rw [HPF.out.len]; omega))
            rw [HCNT.out] at HSP
            clear hI HSH HJH
            go_upto_region 20 with (first
              | (go_at_call 13; refine HRO.out.mono ?_; rintro e w4 ⟨v4, rfl, HO4⟩)
              | (go_at_call 10; refine (HLV.out _ _ HO4).mono ?_; rintro e w5 ⟨v5, rfl, HO5⟩; have HO6 : OutI w3 w5 v5 _ := ⟨HO5.row, (fun k hk => Nat.le_trans HO4.chg.size (HO5.lo k hk)), HO4.chg.trans' HO5.chg⟩)
              | (go_at_call 12; refine (HSP.out _ _ HO6).mono ?_; rintro e w6 ⟨rfl, hpo⟩))
            obtain ⟨F6, hh6⟩ := (HH3.out.still HO6.chg).heapS hpo
            have HH6 := Lib.hid hh6
            clear hpo hh6 HO4 HO5 HO6 HRO HLV HSP HKOK HOKH HH3 HPF
            generalize sweepM hp2 (liveR_ hp2) = hpS at *
            go_wp2_with fail
            go_loopw [15, 16, 17] (fun u15 _ _ wr => ∃ (q : Nat), q ≤ k ∧ u15 = .int .i64 q ∧ Hid (Chg (fun _ => False) w6 wr)) (fun u15 _ _ _ => k - (intOf u15).toNat)
            case atStart => exact ⟨0, by omega, rfl, Lib.hid (Chg.refl _ _)⟩
            case round =>
              rename World => wr
              obtain ⟨q, hq, rfl, HCR⟩ := hrel
              by_cases hlt : q < k
              · have q0 : (0 : Int) ≤ (q : Int) := by omega
                have q1 : (q : Int) < (k : Int) := by omega
                have w64 : IntKind.i64.wrap ((q : Int) + 1) = ((q + 1 : Nat) : Int) := IntWalk.i64_in _ (by have := HK.out; omega)
                have HLT := Lib.hid hlt
                have HNX := Lib.hid (show q + 1 ≤ k from hlt)
                have HHR := Lib.hid (HH6.out.still HCR.out)
                obtain ⟨gl, ol, cl2, hv, p0⟩ := HHR.out.li.at (k := q) (by rw [lsR_len]; exact hlt)
                rw [lsR_len] at hv
                cases hv
                rw [lsR_get _ _ hlt] at p0
                have hsw := HSW.out q hlt
                simp only [Bool.false_eq_true, if_false] at hsw
                have HOW := Lib.hid (own_nil wr bh hpS F6 (hR (12 + q)) nextB HHR.out.heap.here (hR_in (by have := HK.out; omega)) hsw)
                clear hsw
                unfold nextB at HOW
                go_upto_region 24 with (go_at_call 14; refine HOW.out.mono ?_; rintro e wo_ ⟨rfl, hco⟩)
                have HCO := Lib.hid (hco.trans' (Chg.alloc (fun _ => False) wo_ (.cells #[.int .i64 0, .int .i64 0, .string ⟨#[]⟩, .int .i64 0] 38)))
                generalize wo_.alloc (.cells #[.int .i64 0, .int .i64 0, .string ⟨#[]⟩, .int .i64 0] 38) = w8 at *
                clear hco p0
                go_quiet (fail)
                all_goals (
                  go_wp2_with fail
                  go_roundw
                  case rel => exact ⟨q + 1, HNX.out, rfl, Lib.hid (HCR.out.trans' (HCO.out.trans' (Chg.drewN _ _ _)))⟩
                  case measure => have := HLT.out; simp [intOf, w64]; omega)
              · have hq2 : q = k := by omega
                subst hq2
                clear hlt hq
                go_wp2_with fail
                go_ret
                exact ⟨rfl, (HH6.out.heap.chg.trans' HCR.out).below (Nat.le_refl _) (fun _ h => h.elim)⟩
end Go.Proofs.YthiiehanlconeaaDoor
namespace Go.Proofs.YthiiehanlconeaaDoor
set_option linter.unusedVariables false
open Go.ChangeShapes Go.WideShapes Go.ChangeAt Go.RowKit

theorem trod_lengths {P : Program} {H : Type} {enc : TypeId × Value → H} {W : World} : ∀ (ts : List TypeId) (vs : List Value) (ds : List (DataW H)) (ps : List MemPlace), DataW.TrodAll enc P W 0 (fun _ => true) true ts vs ds ps → ds.length = ts.length := by
  intro ts
  induction ts with
  | nil => intro vs ds ps h; cases vs <;> cases ds <;> first | rfl | exact h.elim
  | cons t ts ih => intro vs ds ps h; cases vs <;> cases ds <;> first | exact h.elim | (obtain ⟨_, _, _, h2, _⟩ := h; simp [ih _ _ _ h2])

/-- A law's contract lifted to its row, over listed variables. -/
theorem law_liftD {C : Checked} {os : Os} {f : FuncId} {fn : Func} {s : ChangeSpec} {H : Type} {enc : TypeId × Value → H} {tb : TypeId} {F : Stop.Interp} {laid : List (String × DataW Unit)} (started : os.Started)
    (own : ownKnob C.prog.godebug = none) (hl : laidOutB C.prog = true) (noInit : C.prog.inits.idxOf? f = none) (hfn : C.prog.funcs[f]? = some fn) (hts : rowed C.prog fn.params.toList = true) (hres : fn.resultTypes = #[tb]) (hbool : C.prog.underlying tb = some .bool) (hvars : s.vars = [])
    (hargs : ∀ ds : List (DataW H), ds.length = fn.params.toList.length → s.fn H ds = { results := [.lit (.bool true)], args := ds })
    (witness : ∃ (w : World) (tape : Tape) (i : Input), w.os = os ∧ (w.forCall tape i).Shaped C.prog ∧ i.vars = [] ∧ Input.okWide C.prog (w.forCall tape i) .any w.heap.size f i ∧
      (OpenSpec.ofChange s).preRow enc C.prog fn [] false laid (w.forCall tape i).memory i.args ∧ Assume.holds {} C.prog (lone (Frame.enter C.prog f i.args .normal) [] (w.forCall tape i)))
    (core : ∀ (W : World) (base : Nat) (vs : List Value) (ds : List (DataW H)) (ps : List MemPlace), (∀ (j : Nat) t v, fn.params.toList[j]? = some t → vs[j]? = some v → Value.okWide C.prog W .any base t v) →
      DataW.TrodAll enc C.prog W 0 (fun _ => true) true fn.params.toList vs ds ps → (DataW.weightsEach C.prog fn.params.toList ds).all (· ≤ reachBytes) = true → laidMetH C.prog laid W →
      Calls C.prog f vs.toArray W fun e W' => e = .returned (.bool true) ∧ Below W.heap.size W W') :
    ReturnsInHanded {} C os f .any ((OpenSpec.ofChange s).preRow enc C.prog fn [] false laid) (((OpenSpec.ofChange s).at F).post enc C.prog fn false true false false) := by
  refine returnsInHanded_of_row (C := C) (s := OpenSpec.ofChange s) own started noInit hfn witness ?_
  intro W base args ds gs before hval hW _ _ hsz hL _ _
  have hW' : DataW.Whole enc C.prog fn.params.toList s.vars false W args.toList ds gs before := hW
  obtain ⟨p, q, hA, hV, rfl, hfz, hnd⟩ := hW'
  have hV' : DataW.TrodVars enc C.prog W (fun _ => true) s.vars gs q := hV
  rw [hvars] at hV'
  obtain ⟨rfl, rfl⟩ := trodVars_none hV'
  simp only [List.append_nil] at hsz
  have hlen : ds.length = fn.params.toList.length := trod_lengths _ _ _ _ hA
  have hvt : (OpenSpec.ofChange s).bare.plain.varTypes C.prog = [] := by simp [OpenSpec.ofChange, OpenSpec.bare, DataSpec.varTypes, ChangeSpec.plain, hvars]
  rw [hvt, List.append_nil] at hsz
  have := core W base args.toList ds p (fun j t v h1 h2 => hval j t v (by simpa using h1) (by simpa using h2)) hA hsz hL
  rw [Array.toArray_toList] at this
  refine this.mono fun e W' ⟨he, hb⟩ => ⟨_, he, ?_⟩
  exact (law_post (s := s) hl hts hres hbool hvars hW (by rw [List.append_nil]; exact hargs ds hlen) hb)

/-- The same for the second row (bulk at most 1048576). -/
theorem law_liftD_upto {C : Checked} {os : Os} {f : FuncId} {fn : Func} {s : ChangeSpec} {H : Type} {enc : TypeId × Value → H} {tb : TypeId} {F : Stop.Interp} {laid : List (String × DataW Unit)} (started : os.Started)
    (own : ownKnob C.prog.godebug = none) (hl : laidOutB C.prog = true) (noInit : C.prog.inits.idxOf? f = none) (hfn : C.prog.funcs[f]? = some fn) (hts : rowed C.prog fn.params.toList = true) (hres : fn.resultTypes = #[tb]) (hbool : C.prog.underlying tb = some .bool) (hvars : s.vars = [])
    (hargs : ∀ ds : List (DataW H), ds.length = fn.params.toList.length → s.fn H ds = { results := [.lit (.bool true)], args := ds })
    (witness : ∃ (w : World) (tape : Tape) (i : Input), w.os = os ∧ (w.forCall tape i).Shaped C.prog ∧ i.vars = [] ∧ Input.okWide C.prog (w.forCall tape i) .any w.heap.size f i ∧
      (Rows.OpenSpec.upto s).preRow enc C.prog fn [] false laid (w.forCall tape i).memory i.args ∧ Assume.holds {} C.prog (lone (Frame.enter C.prog f i.args .normal) [] (w.forCall tape i)))
    (core : ∀ (W : World) (base : Nat) (vs : List Value) (ds : List (DataW H)) (ps : List MemPlace), (∀ (j : Nat) t v, fn.params.toList[j]? = some t → vs[j]? = some v → Value.okWide C.prog W .any base t v) →
      DataW.TrodAll enc C.prog W 0 (fun _ => true) true fn.params.toList vs ds ps → Rows.uptoBulkAll ds ≤ 1048576 → laidMetH C.prog laid W →
      Calls C.prog f vs.toArray W fun e W' => e = .returned (.bool true) ∧ Below W.heap.size W W') :
    ReturnsInHanded {} C os f .any ((Rows.OpenSpec.upto s).preRow enc C.prog fn [] false laid) (((Rows.OpenSpec.upto s).at F).post enc C.prog fn false true false false) := by
  refine returnsInHanded_of_row (C := C) (s := Rows.OpenSpec.upto s) own started noInit hfn witness ?_
  intro W base args ds gs before hval hW _ hk _ hL _ _
  have hW' : DataW.Whole enc C.prog fn.params.toList s.vars false W args.toList ds gs before := hW
  obtain ⟨p, q, hA, hV, rfl, hfz, hnd⟩ := hW'
  have hV' : DataW.TrodVars enc C.prog W (fun _ => true) s.vars gs q := hV
  rw [hvars] at hV'
  obtain ⟨rfl, rfl⟩ := trodVars_none hV'
  have hk2 := hk Rows.uptoSmall rfl
  simp only [List.append_nil] at hk2
  have hlen : ds.length = fn.params.toList.length := trod_lengths _ _ _ _ hA
  have := core W base args.toList ds p (fun j t v h1 h2 => hval j t v (by simpa using h1) (by simpa using h2)) hA (of_decide_eq_true hk2) hL
  rw [Array.toArray_toList] at this
  refine this.mono fun e W' ⟨he, hb⟩ => ⟨_, he, ?_⟩
  exact (law_post (s := s) hl hts hres hbool hvars hW (by rw [List.append_nil]; exact hargs ds hlen) hb)
end Go.Proofs.YthiiehanlconeaaDoor
namespace Go.Proofs.YthiiehanlconeaaDoor
set_option linter.unusedVariables false
open Go.ChangeShapes Go.WideShapes Go.ChangeAt Go.RowKit
open Go.ChangeMaps (open_string shut_string)

theorem u8_nat {a : Int} (h : (Lit.int .u8 a).wf = true) : ∃ n : Nat, a = (n : Int) ∧ n < 256 := by
  have e1 : IntKind.u8.min = 0 := by decide
  have e2 : IntKind.u8.max = 255 := by decide
  have h := int_of_wf h
  rw [e1, e2] at h
  exact ⟨a.toNat, by omega, by omega⟩
theorem collectRings_core (a : Int) (b : Bool) (w : World) (ha : (Lit.int .u8 a).wf = true) :
    Calls Tryd.prog 4 #[.int .u8 a, .bool b] w fun e w' => e = .returned (.bool true) ∧ Below w.heap.size w w' := by
  obtain ⟨n, rfl, hn⟩ := u8_nat ha
  exact collectRings_walk n b w hn
set_option maxRecDepth 100000 in
theorem collectRings_laid (os : Os) : laidMetH Tryd.prog Rows.collectRingsRow.laid ((World.laidAll Tryd.prog os Rows.collectRingsRow.laid).forCall (fun _ _ => 0) ⟨#[], #[.int .u8 0, .bool false], []⟩).memory := by
  rw [MakeChecks.laidMetH_plain _ _ _ (by kernel_rfl)]
  exact laidMet_laidAll _ (by kernel_rfl) (by kernel_rfl)
set_option maxRecDepth 100000 in
theorem collectRings_lifted (os : Os) (started : os.Started) (H : Type) (enc : TypeId × Value → H) (F : Stop.Interp) :
    ReturnsInHanded {} Tryd.checked os 4 .any ((OpenSpec.ofChange Rows.collectRingsSpec).preRow enc Tryd.prog Tryd.f4 [] false Rows.collectRingsRow.laid) (((OpenSpec.ofChange Rows.collectRingsSpec).at F).post enc Tryd.prog Tryd.f4 false true false false) := by
  obtain ⟨places, hx⟩ : ∃ places, DataW.whole enc Tryd.prog ((World.laidAll Tryd.prog os Rows.collectRingsRow.laid).forCall (fun _ _ => 0) ⟨#[], #[.int .u8 0, .bool false], []⟩).memory Tryd.f4.params.toList [] false (#[.int .u8 0, .bool false] : Array Value).toList 8 = some ([.lit (.int .u8 0), .lit (.bool false)], [], places) := ⟨[], by kernel_rfl⟩
  refine law_liftD (C := Tryd.checked) (s := Rows.collectRingsSpec) (tb := 4) started Tryd.own Tryd.laidOut (by kernel_rfl) Tryd.func4 (by kernel_rfl) rfl Tryd.underlying4 rfl ?_
    (witness_row_at (enc := enc) (C := Tryd.checked) false (World.laidAll Tryd.prog os Rows.collectRingsRow.laid) #[.int .u8 0, .bool false] (World.laidAll_os _ _ _) (by kernel_rfl) (by kernel_rfl) (by kernel_rfl)
      (OpenSpec.preRow_of_cond 8 hx (by kernel_rfl) (fun k hk => by cases hk) (by kernel_rfl) (collectRings_laid os))) ?_
  · intro ds h
    match ds, h with
    | [_, _], _ => rfl
  · intro W base vs ds ps hval hA hsz hL
    have hp : Tryd.f4.params.toList = [5, 4] := by rw [Tryd.params4]
    rw [hp] at hval hA hsz
    obtain ⟨v0, vs0, d0, ds0, p0, q0, rfl, rfl, rfl, h0, r0⟩ := trodAll_cons hA
    obtain ⟨v1, vs1, d1, ds1, p1, q1, rfl, rfl, rfl, h1, r1⟩ := trodAll_cons r0
    obtain ⟨rfl, rfl, rfl⟩ := trodAll_nil r1
    obtain ⟨a0, rfl, rfl, rfl, w0⟩ := open_int Tryd.underlying5 (hval 0 5 v0 rfl rfl) h0
    obtain ⟨a1, rfl, rfl, rfl⟩ := open_bool Tryd.underlying4 (hval 1 4 v1 rfl rfl) h1
    exact collectRings_core a0 a1 W w0

theorem collectRings_said : Rows.CollectRingsSaid :=
  OpenClaim.holds_of_cond 4 Tryd.f4 rfl rfl rfl rfl rfl rfl rfl ⟨rfl, rfl, rfl, rfl, rfl⟩ rfl rfl rfl rfl rfl (by kernel_rfl) Tryd.func4 (by kernel_rfl)
    (of_decide_eq_true (by kernel_rfl)) (by unfold Func.isWrapper; first | (rw [if_pos (by decide +kernel)]; kernel_rfl) | (rw [if_neg (by decide +kernel)]; exact ⟨rfl, rfl⟩))
    (fun os started H enc _ F => by rw [OpenClaim.pre_eq_preRow]; exact collectRings_lifted os started H enc F)
theorem collectRings_plain (f : FuncId) (fn : Func) (hf : Tryd.pinned.checked.prog.funcNamed "knapsack/knapsacklaw35.CollectRings" = some f) (hfn : Tryd.pinned.checked.prog.funcs[f]? = some fn) :
    true = Tryd.pinned.checked.prog.looks [] ∧ ∀ (j : Nat) t, fn.params[j]? = some t → Tryd.pinned.checked.prog.wantsStandIn t = false := by
  obtain rfl : f = 4 := Option.some.inj ((show Tryd.prog.funcNamed "knapsack/knapsacklaw35.CollectRings" = some 4 by kernel_rfl).symm.trans hf) |>.symm
  obtain rfl : fn = Tryd.f4 := (Option.some.inj (Tryd.func4.symm.trans hfn)).symm
  refine ⟨by kernel_rfl, fun j t ht => ?_⟩
  rw [Tryd.params4] at ht
  have hm : t ∈ [5, 4] := by simpa using Array.mem_of_getElem? ht
  have hall : ([5, 4].all fun u => !Tryd.prog.wantsStandIn u) = true := by kernel_rfl
  exact (show Tryd.prog.wantsStandIn t = false by simpa using List.all_eq_true.1 hall t hm)
/-- The tied card. -/
theorem collectRings_holds : Rows.CollectRingsCardSaid :=
  Claim7.holds_tied_plain_at .later [] _ _ _ _ collectRings_said (fun _ h => by cases h) (by kernel_rfl) (fun _ h => by cases h) collectRings_row_tie rfl ⟨rfl, rfl⟩ (by kernel_rfl) rfl collectRings_plain (by kernel_rfl)
#print axioms collectRings_holds
end Go.Proofs.YthiiehanlconeaaDoor
