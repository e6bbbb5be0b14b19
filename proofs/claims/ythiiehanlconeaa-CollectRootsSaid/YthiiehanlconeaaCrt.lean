/-
  CollectRoots: the walk.
-/
import Derived.Test.YthiiehanlconeaaRtp
namespace Go.Proofs.Ythiiehanlconeaa
open Go.RowKit
set_option linter.unusedVariables false
set_option linter.unusedSimpArgs false

theorem rs_init {w W : World} {bh : Nat} {hp : Hp} {F : List Nat} (h : Own hpR w W bh 0 hp F) :
    RS w ((W.alloc (.cells #[.slice none 0 0, .bool false] 53)).alloc (.cells #[.slice none 0 0] 56)) bh W.heap.size (W.heap.size + 1) hp [] [] (.slice none 0 0) [] F [] [] := by
  have hc : Chg (fun _ => False) W ((W.alloc (.cells #[.slice none 0 0, .bool false] 53)).alloc (.cells #[.slice none 0 0] 56)) := (Chg.alloc _ _ _).allocR _
  have b1 := (Chg.alloc (fun _ => False) (W.alloc (.cells #[.slice none 0 0, .bool false] 53)) (.cells #[.slice none 0 0] 56)).keep (alloc_block W (.cells #[.slice none 0 0, .bool false] 53)) (fun x => x)
  have b2 := alloc_block (W.alloc (.cells #[.slice none 0 0, .bool false] 53)) (.cells #[.slice none 0 0] 56)
  rw [World.size_alloc] at b2
  have hl := h.ltc
  refine ⟨h.still hc, ⟨⟨⟨_, _, b1, ⟨_, [], [], rfl, RowAt.nil _ _ _, .nil, rfl⟩⟩, by simp, List.nodup_nil⟩, h.chg.trans' hc, h.chg.size, by simp⟩, ⟨⟨⟨_, _, b2, ⟨_, [], [], rfl, RowAt.nil _ _ _, .nil, rfl⟩⟩, by simp, List.nodup_nil⟩, h.chg.trans' hc, by have := h.chg.size; omega, by simp⟩,
    ⟨RowAt.nil _ _ _, fun k hk => by simp [Value.ownBlock] at hk, h.chg.trans' hc⟩, fun k hk x => ?_, fun k hk x => ?_, fun k hk x => by simp [ownL, Value.ownBlock] at x, fun k hk x => ?_, fun k hk x => by simp [ownL, Value.ownBlock] at x, fun k hk x => by simp [ownL, Value.ownBlock] at x⟩
  · have := hl k hk; simp at x; omega
  · have := hl k hk; simp at x; omega
  · simp at hk x; omega
set_option maxHeartbeats 12800000 in
set_option maxRecDepth 100000 in
theorem collectRoots_walk (n m : Nat) (w : World) (hn : n < 256) (hm : m < 256) :
    Calls Try.prog 4 #[.int .u8 (n : Int), .int .u8 (m : Int)] w fun e w' => e = .returned (.bool true) ∧ Below w.heap.size w w' := by
  have HAW := Lib.hid awake_any
  have HN := Lib.hid (fun W => new_any 1 1 W)
  go_enter Try.func4, Try.ntmps4
  go_upto_region 4 with (first
    | (go_at_call 7; refine (HAW.out _).mono ?_; rintro e w0 ⟨rfl, hc0⟩)
    | (go_at_call 14; refine (HN.out _).mono ?_; rintro e w1 ⟨cs, F, rfl, hown, hnd, hlo, hch⟩; have hown' := hown; obtain ⟨v1, v2, v3, F1, F2, F3, rfl, o1, o2, o3, -⟩ := hown'; obtain ⟨x1, y1, p1⟩ := Rep.opened o1; obtain ⟨n1, m1, rfl, -⟩ := p1.val; obtain ⟨x2, y2, p2⟩ := Rep.opened o2; obtain ⟨n2, m2, rfl, -⟩ := p2.val; obtain ⟨x3, y3, p3⟩ := Rep.opened o3; obtain ⟨n3, m3, rfl, -⟩ := p3.val; clear o1 o2 o3 p1 p2 p3))
  have hch' := hc0.trans' hch
  have HO := Lib.hid (show Own hpR w (w1.alloc (.cells _ 49)) w1.heap.size 0 (newM 1 1) F from ⟨Here.made w1 49 _ (newM 1 1) F hown hnd, hch'.allocR _, hch'.size, fun k hk => by have := hlo k hk; have := hc0.size; omega⟩)
  clear HN hown hnd hlo hch hch' hc0
  generalize w1.alloc (.cells #[.int .i64 (newM 1 1).base, .int .i64 (newM 1 1).stride, .slice n1 (newM 1 1).slots.length m1, .slice n2 (newM 1 1).free.length m2, .int .i64 (newM 1 1).live, .int .i64 (newM 1 1).global, .int .i64 (newM 1 1).texts, .slice n3 (newM 1 1).protos.length m3] 49) = W2 at *
  generalize w1.heap.size = bh at *
  go_upto_region 7 with fail
  have hrs0 : RS w ((W2.alloc (.cells #[.slice none 0 0, .bool false] 53)).alloc (.cells #[.slice none 0 0] 56)) bh W2.heap.size (W2.heap.size + 1) (newM 1 1) [] [] (.slice none 0 0) [] F [] [] := rs_init HO.out
  have HRS0 := Lib.hid (show RS w ((W2.alloc (.cells #[.slice none 0 0, .bool false] 53)).alloc (.cells #[.slice none 0 0] 56)) bh W2.heap.size (W2.heap.size + 1) (hpP 0) (frP (n % 8) 0) (jbP (n % 8) 0) (.slice none 0 0) (lsP 0) F [] [] from by
    have e1 : frP (n % 8) 0 = [] := by unfold frP; rw [Nat.zero_min]; rfl
    have e2 : jbP (n % 8) 0 = [] := by unfold jbP; rw [Nat.zero_sub]; rfl
    rw [e1, e2]; exact hrs0)
  clear hrs0 HO
  generalize (W2.alloc (.cells #[.slice none 0 0, .bool false] 53)).alloc (.cells #[.slice none 0 0] 56) = W3 at *
  generalize W2.heap.size + 1 = bj at *
  generalize W2.heap.size = bs at *
  have v0 : (0 : Int) ≤ (n : Int) := by omega
  have v1 : (0 : Int) ≤ (m : Int) := by omega
  have e1 : IntKind.i64.wrap ((n : Int) % 8) = (n : Int) % 8 := IntWalk.i64_in _ (by omega)
  have e2 : IntKind.i64.wrap ((m : Int) % 8) = (m : Int) % 8 := IntWalk.i64_in _ (by omega)
  have e3 : IntKind.i64.wrap ((n : Int) % 8 + (m : Int) % 8) = (n : Int) % 8 + (m : Int) % 8 := IntWalk.i64_in _ (by omega)
  have hT : ∃ tt : Nat, (tt : Int) = (n : Int) % 8 + (m : Int) % 8 ∧ tt ≤ 14 := ⟨n % 8 + m % 8, by omega, by omega⟩
  obtain ⟨tt, hT1, hT2⟩ := hT
  have HTT := Lib.hid hT1
  have HT14 := Lib.hid hT2
  have HNA : Hid (((n % 8 : Nat) : Int) = (n : Int) % 8) := Lib.hid (by omega)
  generalize n % 8 = na at *
  clear hT1 hT2 hn hm
  go_wp2_with fail
  go_loopw [8, 9, 10, 11] (fun u8 u9 _ _ wr => ∃ (i : Nat) (a : Option Addr) (nn c : Nat) (Fh Fs Fj : List Nat), i ≤ tt ∧ u9 = .int .i64 i ∧ u8 = .slice a nn c ∧ Hid (RS w wr bh bs bj (hpP i) (frP na i) (jbP na i) (.slice a nn c) (lsP i) Fh Fs Fj)) (fun _ u9 _ _ _ => tt - (intOf u9).toNat)
  case atStart => exact ⟨0, none, 0, 0, F, [], [], by omega, rfl, rfl, HRS0⟩
  case round =>
    clear HRS0
    obtain ⟨i, al, ml, cl, Fh, Fs, Fj, hi, rfl, rfl, HR⟩ := hrel
    by_cases hlt : i < tt
    · have i0 : (0 : Int) ≤ (i : Int) := by omega
      have i1 : (i : Int) < (n : Int) % 8 + (m : Int) % 8 := by have := HTT.out; omega
      have w64 : IntKind.i64.wrap ((i : Int) + 1) = ((i + 1 : Nat) : Int) := IntWalk.i64_in _ (by have := HT14.out; omega)
      have HLT := Lib.hid hlt
      have HNX := Lib.hid (show i + 1 ≤ tt from hlt)
      have HI : Hid (i ≤ 14) := Lib.hid (by have := HT14.out; omega)
      have hok := hpP_ok i
      have hmk0 := make_any wr bh (hpP i) Fh 0 HR.out.heap.here hok.free (by rw [hok.live, hok.len]) (by rw [hok.len]; have := HI.out; omega) (by rw [hok.prot]; rfl) (by omega)
      rw [hok.len, hok.base, hok.stride, show handleM 1 1 ((12 + i : Nat) : Int) = oR i from hOf_one (by have := HI.out; omega), show ((0 : Nat) : Int) = 0 from rfl] at hmk0
      have HMK := Lib.hid hmk0
      clear hmk0 hok hi hlt
      go_upto_region 11 with (go_at_call 15; refine HMK.out.mono ?_; rintro e Wm ⟨rfl, hA⟩)
      obtain ⟨Fm, hrm⟩ := HR.out.heapS hA.post
      have HRM := Lib.hid (show RS w Wm bh bs bj (hpP (i + 1)) (frP na i) (jbP na i) (.slice al ml cl) (lsP i) Fm Fs Fj from hrm)
      clear hA hrm HMK HR
      have HO5 := Lib.hid (HRM.out.li.alloc (.cells #[.int .i64 (oR i)] 3))
      go_upto_region 12 with (at_builtin; refine wpList_out rfl (.tmp 39) (.tmp 41) rfl _ (lsP i) rfl HO5.out _ [oR i] rfl (RowAt.lit [.int .i64 (oR i)] rfl (by simp [maxLen])) (⟨by rw [lsP_len]; have := HI.out; simp; omega⟩ : Few _) ?_; intro a2 n2 c2 wl HO6 hch2 hold2)
      have hrs := (HRM.out.still (Chg.alloc (fun _ => False) Wm (.cells #[.int .i64 (oR i)] 3))).liS hch2 HO6 hold2
      rw [← lsP_succ] at hrs
      have HRS := Lib.hid hrs
      have HRF := Lib.hid (fun (h : Int) (W : World) => vref_any h W)
      clear hrs HO6 hch2 hold2 HO5 HRM
      by_cases hna : i < na
      · have hn8 : (i : Int) < (n : Int) % 8 := by have := HNA.out; omega
        have HOF := Lib.hid (fun W => vof_any 1 W)
        have HCC := Lib.hid (Chg.refl (fun _ => False) wl)
        have HNL := Lib.hid hna
        clear hna
        go_wp2_with (first
          | (go_at_call 17; refine (HRF.out _ _).mono ?_; rintro e wd ⟨rfl, hcd⟩; have HCC := Lib.hid (HCC.out.trans' hcd); clear hcd)
          | (go_at_call 18; refine (HOF.out _).mono ?_; rintro e wd ⟨rfl, hcd⟩; have HCC := Lib.hid (HCC.out.trans' hcd); clear hcd)
          | (go_at_call 16; refine (push_any (wd.alloc (.cells #[.int .i64 5, .int .i64 0, .string ⟨#[]⟩, .int .i64 (oR i), .int .i64 3, .int .i64 1, .string ⟨#[]⟩, .int .i64 0, .int .i64 5, .int .i64 0, .string ⟨#[]⟩, .int .i64 (oR i)] 63)) bs (frP na i) Fs 5 0 (.slice (some ⟨wd.heap.size, 0, none⟩) 3 3) [refV (oR i), ofVal, refV (oR i)] (HRS.out.still (HCC.out.allocR (.cells #[.int .i64 5, .int .i64 0, .string ⟨#[]⟩, .int .i64 (oR i), .int .i64 3, .int .i64 1, .string ⟨#[]⟩, .int .i64 0, .int .i64 5, .int .i64 0, .string ⟨#[]⟩, .int .i64 (oR i)] 63))).fr.here (by have := frP_len na i; have := HI.out; omega) (RowAt.lit (W := wd) _ (vals_len [refV (oR i), ofVal, refV (oR i)]) (by simp [maxLen])) (by simp)).mono ?_; rintro e wq ⟨rfl, hpq⟩))
        obtain ⟨Fs2, hr2⟩ := (HRS.out.still (HCC.out.allocR (.cells #[.int .i64 5, .int .i64 0, .string ⟨#[]⟩, .int .i64 (oR i), .int .i64 3, .int .i64 1, .string ⟨#[]⟩, .int .i64 0, .int .i64 5, .int .i64 0, .string ⟨#[]⟩, .int .i64 (oR i)] 63))).frS hpq
        rw [← frP_lt HNL.out] at hr2
        rw [← jbP_lt HNL.out] at hr2
        go_roundw
        case rel => exact ⟨i + 1, a2, n2, c2, Fm, Fs2, Fj, HNX.out, rfl, rfl, Lib.hid hr2⟩
        case measure => have := HLT.out; simp [intOf, w64]; omega
      · have hn8 : ¬ (i : Int) < (n : Int) % 8 := by have := HNA.out; omega
        have HGE := Lib.hid (show na ≤ i by omega)
        clear hna
        obtain ⟨-, -, -, -, -, c5, -⟩ := hpCells HRS.out.heap.here
        rw [Nat.zero_add, (hpP_ok (i + 1)).glob] at c5
        have HS0 := Lib.hid c5
        clear c5
        go_upto_region 14 with fail
        refine wp_region_held_split 7 (fun w' => w'.cell? ⟨bh, 5, none⟩ = some (.int .i64 12)) (by kernel_rfl) (by kernel_rfl) ?_ (fun hHeld => ?_)
        · (first | exact HS0.out | exact HKS.out _ HCC.out | exact HKS.out _ (HCC.out.allocR _))
        simp only [List.take_succ_cons, List.take_zero]
        have HKS : Hid (∀ W, Chg (fun _ => False) wl.drew W → W.cell? ⟨bh, 5, none⟩ = some (.int .i64 12)) := Lib.hid (fun W hc => hc.cell HS0.out)
        have HWD : Hid (Chg (fun _ => False) wl wl.drew) := Lib.hid (Chg.refl _ wl).drewR
        generalize wl.drew = wD at *
        have HCC := Lib.hid (Chg.refl (fun _ => False) wD)
        refine wpAnyH_take (i := 0) (v := ?_) rfl (by kernel_rfl) (by kernel_rfl) (by kernel_rfl) (fun _ _ _ h => h) (Or.inl ⟨by rfl, ?_⟩) (by assumption) ?_
        rotate_left
        · (intro wq hSw; (try dsimp only at hSw); go_simp; (try with_reducible rfl))
        simp only [Act.put, List.getElem_toArray, List.getElem_cons_zero, List.getElem_cons_succ, List.setIfInBounds_toArray, List.set_cons_zero, List.set_cons_succ]
        refine wpAnyH_take (i := 2) (v := ?_) rfl (by kernel_rfl) (by kernel_rfl) (by kernel_rfl) (fun _ _ _ h => h) (Or.inl ⟨by rfl, ?_⟩) (by assumption) ?_
        rotate_left
        · (intro wq hSw; (try dsimp only at hSw); go_simp; (try with_reducible rfl))
        simp only [Act.put, List.getElem_toArray, List.getElem_cons_zero, List.getElem_cons_succ, List.setIfInBounds_toArray, List.set_cons_zero, List.set_cons_succ]
        refine wpAnyH_take (i := 3) (v := ?_) rfl (by kernel_rfl) (by kernel_rfl) (by kernel_rfl) (fun _ _ _ h => h) (Or.inl ⟨by rfl, ?_⟩) (by assumption) ?_
        rotate_left
        · (intro wq hSw; (try dsimp only at hSw); go_simp; (try with_reducible rfl))
        simp only [Act.put, List.getElem_toArray, List.getElem_cons_zero, List.getElem_cons_succ, List.setIfInBounds_toArray, List.set_cons_zero, List.set_cons_succ]
        refine wpAnyH_ready (rs := [1]) (by kernel_rfl) (by simp) ?_
        refine AllReadyH.cons (by simp only [List.getElem?_toArray, List.getElem?_cons_succ, List.getElem?_cons_zero]; rfl) (fun K hK => ?_) AllReadyH.nil
        (go_simp; go_at_call 17; refine (HRF.out _ _).mono ?_; rintro _ wd ⟨rfl, hcd⟩; have HCC := Lib.hid (HCC.out.trans' hcd); clear hcd; go_simp)
        refine hK.out _ _ ?_ (fun hHeld => ?_)
        · (first | exact HS0.out | exact HKS.out _ HCC.out | exact HKS.out _ (HCC.out.allocR _))
        clear hK K
        (try simp only [Act.put, List.getElem_toArray, List.getElem_cons_zero, List.getElem_cons_succ, List.setIfInBounds_toArray, List.set_cons_zero, List.set_cons_succ])
        refine wpAnyH_ready (rs := [4]) (by kernel_rfl) (by simp) ?_
        refine AllReadyH.cons (by simp only [List.getElem?_toArray, List.getElem?_cons_succ, List.getElem?_cons_zero]; rfl) (fun K hK => ?_) AllReadyH.nil
        (go_simp; go_at_call 17; refine (HRF.out _ _).mono ?_; rintro _ wd ⟨rfl, hcd⟩; have HCC := Lib.hid (HCC.out.trans' hcd); clear hcd; go_simp)
        refine hK.out _ _ ?_ (fun hHeld => ?_)
        · (first | exact HS0.out | exact HKS.out _ HCC.out | exact HKS.out _ (HCC.out.allocR _))
        clear hK K
        (try simp only [Act.put, List.getElem_toArray, List.getElem_cons_zero, List.getElem_cons_succ, List.setIfInBounds_toArray, List.set_cons_zero, List.set_cons_succ])
        refine wpAnyH_ready (rs := [5]) (by kernel_rfl) (by simp) ?_
        refine AllReadyH.cons (by simp only [List.getElem?_toArray, List.getElem?_cons_succ, List.getElem?_cons_zero]; rfl) (fun K hK => ?_) AllReadyH.nil
        go_simp
        refine hK.out _ _ ?_ (fun hHeld => ?_)
        · (first | exact HS0.out | exact HKS.out _ HCC.out | exact HKS.out _ (HCC.out.allocR _))
        clear hK K
        (try simp only [Act.put, List.getElem_toArray, List.getElem_cons_zero, List.getElem_cons_succ, List.setIfInBounds_toArray, List.set_cons_zero, List.set_cons_succ])
        refine wpAnyH_take (i := 6) (v := ?_) rfl (by kernel_rfl) (by kernel_rfl) (by kernel_rfl) (fun _ _ _ h => h) (Or.inl ⟨by rfl, ?_⟩) (by assumption) ?_
        rotate_left
        · (intro wq hSw; (try dsimp only at hSw); go_simp; (try with_reducible rfl))
        simp only [Act.put, List.getElem_toArray, List.getElem_cons_zero, List.getElem_cons_succ, List.setIfInBounds_toArray, List.set_cons_zero, List.set_cons_succ]
        refine wpAnyH_done (by kernel_rfl) ?_ _
        change wpList _ _ _ _ _ _
        simp only [List.drop_succ_cons, List.drop_zero]
        have HQ := Lib.hid (qpush_any wl (wd.alloc (.cells #[.int .i64 5, .int .i64 0, .string ⟨#[]⟩, .int .i64 (oR i), .int .i64 5, .int .i64 0, .string ⟨#[]⟩, .int .i64 12] 63)) bj (jbP na i) Fj 4 (.slice (some ⟨wd.heap.size, 0, none⟩) 2 2) [refV (oR i), refV 12] [wd.heap.size] HRS.out.jb.here (HWD.out.trans' (HCC.out.allocR (.cells #[.int .i64 5, .int .i64 0, .string ⟨#[]⟩, .int .i64 (oR i), .int .i64 5, .int .i64 0, .string ⟨#[]⟩, .int .i64 12] 63)))
          (ofRow_flat (n := 4) (f := Val.cells) (hf := Val.len) (l := [refV (oR i), refV 12]) (RowAt.lit (W := wd) _ (vals_len [refV (oR i), refV 12]) (by simp [maxLen]))) (fun j hj => by rw [List.mem_singleton.1 hj]; exact (HWD.out.trans' HCC.out).size) (by simp) (by have := jbP_len na i; have := HI.out; omega))
        go_wp2_with (go_at_call 19; refine HQ.out.mono ?_; rintro e wq ⟨rfl, hpq⟩)
        obtain ⟨Fj2, hr2⟩ := HRS.out.jbS hpq
        rw [← jbP_ge HGE.out] at hr2
        rw [← frP_ge HGE.out] at hr2
        go_roundw
        case rel => exact ⟨i + 1, a2, n2, c2, Fm, Fs, Fj2, HNX.out, rfl, rfl, Lib.hid hr2⟩
        case measure => have := HLT.out; simp [intOf, w64]; omega
    · have hi2 : tt = i := by omega
      subst hi2
      clear hlt hi
      have hok := hpP_ok tt
      obtain ⟨-, -, -, -, -, c5, c6, -⟩ := hpCells HR.out.heap.here
      obtain ⟨ap, kp, c7, hpr⟩ := protoRow HR.out.heap.here
      rw [Nat.zero_add, hok.glob] at c5
      rw [Nat.zero_add, hok.text] at c6
      rw [Nat.zero_add, hok.prot] at c7
      rw [hok.prot] at hpr
      have c7' : wr.cell? ⟨bh, 7, none⟩ = some (.slice ap 12 kp) := c7
      have hpr' : RowAt wr 3 1 (.slice ap 12 kp) protL.length (intC protL) := hpr
      obtain ⟨gp, op_, kp', hv, -, -⟩ := hpr'.addr (by decide)
      cases hv
      have HC7 := Lib.hid c7'
      have HPR := Lib.hid hpr'
      have HOW := Lib.hid (show OutI wr (wr.alloc (.cells #[.int .i64 12, .int .i64 11] 3)) (.slice (some ⟨wr.heap.size, 0, none⟩) 2 2) [12, 11] from ⟨RowAt.lit [.int .i64 12, .int .i64 11] rfl (by simp [maxLen]), (fun k hk => by (have e : k = wr.heap.size := by simpa [Value.ownBlock] using hk.symm); omega), Chg.alloc _ _ _⟩)
      clear c7 c7' hpr hpr' hok
      have hend : ¬ (tt : Int) < (n : Int) % 8 + (m : Int) % 8 := by have := HTT.out; omega
      go_wp2_with fail
      clear c5 c6 v0 v1 e1 e2 e3 hend
      go_loopw [12, 13, 14, 15] (fun u12 u13 _ _ wx => ∃ (k : Nat) (a : Option Addr) (nn c : Nat), k ≤ 12 ∧ u13 = .int .i64 k ∧ u12 = .slice a nn c ∧ Hid (OutI wr wx (.slice a nn c) ((protL.take k).foldl ddS [12, 11]))) (fun _ u13 _ _ _ => 12 - (intOf u13).toNat)
      case atStart => exact ⟨0, some ⟨wr.heap.size, 0, none⟩, 2, 2, by omega, rfl, rfl, HOW⟩
      case round =>
        clear HOW
        rename World => wx
        obtain ⟨k, a, nn, c, hk, rfl, rfl, HO⟩ := hrel
        have c7 := HO.out.chg.cell HC7.out
        by_cases hlt : k < 12
        · have k0 : (0 : Int) ≤ (k : Int) := by omega
          have k1 : (k : Int) < 12 := by omega
          have w64 : IntKind.i64.wrap ((k : Int) + 1) = ((k + 1 : Nat) : Int) := IntWalk.i64_in _ (by omega)
          have hkl : k < protL.length := hlt
          have cp := HO.out.chg.cell (HPR.out.cellAt k (.int .i64 protL[k]) (by unfold intC; rw [List.getElem?_map, List.getElem?_eq_getElem hkl]; rfl))
          have HT : Hid ((protL.take (k + 1)).foldl ddS [12, 11] = ddS ((protL.take k).foldl ddS [12, 11]) protL[k]) := Lib.hid (by rw [List.take_succ_eq_append_getElem hkl, List.foldl_append]; rfl)
          have HWL : Hid (((protL.take k).foldl ddS [12, 11]).length ≤ 14) := Lib.hid (by have h := dd_len (protL.take k) [12, 11]; rw [List.length_take] at h; simp only [List.length_cons, List.length_nil] at h; omega)
          clear hk
          generalize protL[k] = p at *
          generalize (protL.take k).foldl ddS [12, 11] = Wl at *
          have HLT := Lib.hid hlt
          have HNX := Lib.hid (show k + 1 ≤ 12 from hlt)
          obtain ⟨al2_, cl2, hv, -, -⟩ := HO.out.val
          cases hv
          have wl16 : (Wl.length : Int) ≤ 14 := by have := HWL.out; omega
          clear hkl hlt
          go_wp2_with fail
          go_loopw [14, 15] (fun u14 u15 wy => ∃ (q : Nat) (b : Bool), q ≤ Wl.length ∧ u15 = .int .i64 q ∧ u14 = .bool b ∧ Hid (b = (p == 0 || decide (p ∈ Wl.take q))) ∧ Hid (Chg (fun _ => False) wx wy)) (fun _ u15 _ => Wl.length - (intOf u15).toNat)
          case atStart => exact ⟨0, (p == 0), by omega, rfl, rfl, Lib.hid (by simp), Lib.hid (Chg.refl _ _)⟩
          case round =>
            rename World => wy
            obtain ⟨q, b, hq, rfl, rfl, HB, HCY⟩ := hrel
            by_cases hlq : q < Wl.length
            · have q0 : (0 : Int) ≤ (q : Int) := by omega
              have q1 : (q : Int) < (Wl.length : Int) := by omega
              have wq64 : IntKind.i64.wrap ((q : Int) + 1) = ((q + 1 : Nat) : Int) := IntWalk.i64_in _ (by omega)
              obtain ⟨gw, ow, cw, hv, pw⟩ := HO.out.at hlq
              cases hv
              have pw' := HCY.out.cell pw
              have cp' := HCY.out.cell cp
              have c7' := HCY.out.cell c7
              have HTQ : Hid (Wl.take (q + 1) = Wl.take q ++ [Wl[q]]) := Lib.hid (List.take_succ_eq_append_getElem hlq)
              clear pw hq
              generalize Wl[q] = x at *
              have HLQ := Lib.hid hlq
              have HNQ := Lib.hid (show q + 1 ≤ Wl.length from hlq)
              clear hlq
              cases b with
              | true =>
                have HB2 : Hid (true = (p == 0 || decide (p ∈ Wl.take (q + 1)))) := Lib.hid (by
                  have h := HB.out
                  rw [HTQ.out]
                  simp only [List.mem_append] at h ⊢
                  by_cases hp0 : p = 0
                  · simp [hp0]
                  · have h2 : p ∈ Wl.take q := by simpa [hp0] using h.symm
                    simp [h2])
                go_wp2_with fail
                go_quiet (fail)
                all_goals (
                  go_wp2_with fail
                  go_roundw
                  case rel => exact ⟨q + 1, true, HNQ.out, rfl, rfl, HB2, Lib.hid (HCY.out.trans' (Chg.drewN _ _ _))⟩
                  case measure => have := HLQ.out; simp [intOf, wq64]; omega)
              | false =>
                have HB2 : Hid ((x == p) = (p == 0 || decide (p ∈ Wl.take (q + 1)))) := Lib.hid (by
                  have h := HB.out
                  rw [HTQ.out]
                  have h1 : ¬ p = 0 := fun e => by simp [e] at h
                  have h2 : p ∉ Wl.take q := fun e => by simp [h1, e] at h
                  by_cases hx : x = p
                  · subst hx; simp
                  · have hx' : ¬ p = x := fun e => hx e.symm
                    rw [beq_false_of_ne hx, beq_false_of_ne h1]
                    simp [h2, hx'])
                go_wp2_with fail
                go_quiet (fail)
                all_goals (
                  go_wp2_with fail
                  go_roundw
                  case rel => exact ⟨q + 1, (x == p), HNQ.out, rfl, rfl, HB2, Lib.hid (HCY.out.trans' (Chg.drewN _ _ _))⟩
                  case measure => have := HLQ.out; simp [intOf, wq64]; omega)
            · have hq2 : q = Wl.length := by omega
              subst hq2
              have hb := HB.out
              rw [List.take_length] at hb
              have cp' := HCY.out.cell cp
              have c7' := HCY.out.cell c7
              clear hlq hq
              cases b with
              | true =>
                have HD : Hid (ddS Wl p = Wl) := Lib.hid (by
                  unfold ddS
                  rw [if_pos]
                  by_cases hp0 : p = 0
                  · exact .inl hp0
                  · exact .inr (by simpa [hp0] using hb.symm))
                clear hb
                go_wp2_with fail
                go_roundw
                case rel => exact ⟨k + 1, a, Wl.length, c, HNX.out, rfl, rfl, Lib.hid (by rw [HT.out, HD.out]; exact HO.out.still HCY.out)⟩
                case measure => have := HLT.out; simp [intOf, w64]; omega
              | false =>
                have HD : Hid (ddS Wl p = Wl ++ [p]) := Lib.hid (by
                  unfold ddS
                  rw [if_neg]
                  rintro (e | e)
                  · simp [e] at hb
                  · simp [e] at hb)
                have HO3 := Lib.hid ((HO.out.still HCY.out).alloc (.cells #[.int .i64 p] 3))
                clear hb
                go_wp2_with (at_builtin; refine wpList_out rfl (.tmp 102) (.tmp 108) rfl _ Wl rfl HO3.out _ [p] rfl (RowAt.lit [.int .i64 p] rfl (by simp [maxLen])) (⟨by have := HWL.out; simp only [List.length_cons, List.length_nil]; omega⟩ : Few _) ?_; intro a2 n2 c2 w2 HO6 hch2 hold2)
                go_roundw
                case rel => exact ⟨k + 1, a2, n2, c2, HNX.out, rfl, rfl, Lib.hid (by rw [HT.out, HD.out]; exact HO6)⟩
                case measure => have := HLT.out; simp [intOf, w64]; omega
        · have hk2 : k = 12 := by omega
          subst hk2
          have HO4 : Hid (OutI wr wx (.slice a nn c) wantL) := Lib.hid (by have h := HO.out; rw [show protL.take 12 = protL from rfl, want_all] at h; exact h)
          clear hlt hk HO
          rw [show ((12 : Nat) : Int) = 12 from rfl]
          have HLR := Lib.hid (HR.out.li.row.chg HO4.out.chg (fun _ _ x => x))
          have hro := roots_all (a := na) (hpP_ok tt)
          have HRT := Lib.hid (fun (W : World) (hc : Chg (fun _ => False) wr W) => roots_any W bh bs bj (hpP tt) Fh (frP na tt) Fs (jbP na tt) Fj (HR.out.still hc).heap.here (HR.out.still hc).fr.here (HR.out.still hc).jb.here
            (by rw [(hpP_ok tt).prot]; decide) (by have := frP_len na tt; have := HT14.out; omega) (fun f hf => by unfold frP at hf; obtain ⟨q, -, rfl⟩ := List.mem_map.1 hf; exact ⟨by simp [pushF], by simp [pushF], by simp [pushF]⟩)
            (by have := jbP_len na tt; have := HT14.out; omega) (fun j hj => by unfold jbP at hj; obtain ⟨q, -, rfl⟩ := List.mem_map.1 hj; simp) (roots_in (hpP_ok tt) (by have := HT14.out; omega)))
          rw [hro] at HRT
          have HWW : Hid ((wantL ++ lsP tt).length ≤ 26) := Lib.hid (by rw [List.length_append, lsP_len]; have := HT14.out; show 12 + tt ≤ 26; omega)
          clear hro
          go_upto_region 28 with (first
            | (at_builtin; refine wpList_out rfl (.tmp 110) (.tmp 111) rfl _ wantL rfl HO4.out _ (lsP tt) rfl HLR.out (⟨by (have e : wantL.length = 12 := rfl); rw [lsP_len, e]; have := HT14.out; omega⟩ : Few _) ?_; intro a7 n7 c7 w7 HO7 hch7 hold7)
            | (go_at_call 20; refine (HRT.out _ HO7.chg).mono ?_; rintro e w8 ⟨v8, rfl, HO8⟩))
          generalize wantL ++ lsP tt = R at *
          obtain ⟨b7, d7, hv, -, -⟩ := HO7.val
          cases hv
          obtain ⟨b8, d8, rfl, -, -⟩ := HO8.val
          have H7 := Lib.hid (HO7.still HO8.chg)
          have H8 := Lib.hid HO8
          have HCE := Lib.hid ((HR.out.heap.chg.trans' HO7.chg).trans' HO8.chg)
          have rl : (R.length : Int) ≤ 26 := by have := HWW.out; omega
          clear hch7 hold7 HO7 HO8 HO4 HRT HLR HR
          go_wp2_with fail
          go_loopw [17] (fun u17 wy => ∃ (i : Nat), i ≤ R.length ∧ u17 = .int .i64 i ∧ Hid (Chg (fun _ => False) w8 wy)) (fun u17 _ => R.length - (intOf u17).toNat)
          case atStart => exact ⟨0, by omega, rfl, Lib.hid (Chg.refl _ _)⟩
          case round =>
            rename World => wy
            obtain ⟨i, hi, rfl, HCR⟩ := hrel
            by_cases hlt : i < R.length
            · have i0 : (0 : Int) ≤ (i : Int) := by omega
              have i1 : (i : Int) < (R.length : Int) := by omega
              have w64 : IntKind.i64.wrap ((i : Int) + 1) = ((i + 1 : Nat) : Int) := IntWalk.i64_in _ (by omega)
              obtain ⟨g7, o7, k7, hv, p7⟩ := H7.out.at hlt
              cases hv
              obtain ⟨g8, o8, k8, hv, p8⟩ := H8.out.at hlt
              cases hv
              clear hi
              generalize R[i] = x at *
              have HLT := Lib.hid hlt
              have HNX := Lib.hid (show i + 1 ≤ R.length from hlt)
              have zx : (x != x) = false := bne_self_eq_false ..
              have r7 := HCR.out.cell p7
              have r8 := HCR.out.cell p8
              clear p7 p8 hlt
              go_wp2_with fail
              go_quiet (fail)
              all_goals (
                go_wp2_with fail
                go_roundw
                case rel => exact ⟨i + 1, HNX.out, rfl, Lib.hid (HCR.out.trans' (Chg.drewN _ _ _))⟩
                case measure => have := HLT.out; simp [intOf, w64]; omega)
            · have hi2 : i = R.length := by omega
              subst hi2
              clear hlt hi
              go_wp2_with fail
              go_ret
              exact ⟨rfl, (HCE.out.trans' HCR.out).below (Nat.le_refl _) (fun _ h => h.elim)⟩
end Go.Proofs.Ythiiehanlconeaa
