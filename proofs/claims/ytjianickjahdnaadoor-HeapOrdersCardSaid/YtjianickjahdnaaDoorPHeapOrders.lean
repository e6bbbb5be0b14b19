/-
  HeapOrders: the card.
-/
import Derived.Test.YtjianickjahdnaaDoorPHeapOrdersh
import Derived.Test.YtjianickjahdnaaDoorRows
import Derived.Test.YtjianickjahdnaaDoorPHeapOrdersf
import Derived.MakeChecks
import Derived.Stop.LaidErr
import Derived.Lib.LaidTab
import Derived.Deep.DeepHandedRow
import Derived.SevenTiedAt
import Derived.Lay
import Derived.LaidMore
import Derived.Stop.Joined
import Derived.Test.YtjianickjahdnaaDoorCards
import Derived.Test.YtjianickjahdnaaDoorTie
namespace Go.Proofs.YtjianickjahdnaaDoor
open Go.RowKit
set_option linter.unusedVariables false
set_option linter.unusedSimpArgs false

theorem HS.alloc {w W : World} {bh : Nat} {hp : Hp} {v : Value} {L : List ByteArray} {F : List Nat} (h : HS w W bh hp v L F) (o : _root_.Go.Obj) : HS w (W.alloc o) bh hp v L F := h.still (Chg.alloc _ W o)
set_option maxHeartbeats 12800000 in
set_option maxRecDepth 100000 in
theorem heapOrders_none (v : Value) (xs : List ByteArray) (nb : Int) (w : World) (hx : ArgRow w v (xs.map Value.string)) (HT : Tabs w) (hl : 30 < xs.length) :
    Calls Tryd.prog 6 #[v, .int .u8 nb] w fun e w' => e = .returned (.bool true) ∧ Below w.heap.size w w' := by
  have HAW := Lib.hid (fun W (hc : Chg (fun _ => False) w W) => awake_heap W (HT.still hc))
  obtain ⟨av, cv, rfl, -, -⟩ := hx
  rw [List.length_map]
  have l1 : (30 : Int) < (xs.length : Int) := by omega
  have HC0 := Lib.hid (Chg.refl (fun _ => False) w)
  clear hl HT
  go_enter Tryd.func6, Tryd.ntmps6
  go_wp2_with (go_at_call 9; refine (HAW.out _ HC0.out).mono ?_; rintro e w0 ⟨rfl, hc0⟩; have HC0 := Lib.hid (HC0.out.trans' hc0); clear hc0)
  go_ret
  exact ⟨rfl, HC0.out.below (Nat.le_refl _) (fun _ x => x.elim)⟩
set_option maxHeartbeats 12800000 in
set_option maxRecDepth 100000 in
theorem heapOrders_some (v : Value) (xs : List ByteArray) (nb : Nat) (w : World) (hx : ArgRow w v (xs.map Value.string)) (hxb : ∀ z ∈ xs, z.size ≤ maxLen) (hb : nb < 256) (HT : Tabs w) (hl : ¬ 30 < xs.length) :
    Calls Tryd.prog 6 #[v, .int .u8 (nb : Int)] w fun e w' => e = .returned (.bool true) ∧ Below w.heap.size w w' := by
  have HAW := Lib.hid (awake_heap w HT)
  have HNW := Lib.hid (fun W => new_any 0 0 W)
  have HAX := Lib.hid hx
  have HXB := Lib.hid hxb
  have HOF := Lib.hid (fun (h : Int) (W : World) => vofA h W)
  obtain ⟨av, cv, rfl, -, -⟩ := hx
  rw [List.length_map] at *
  have l1 : ¬ (30 : Int) < (xs.length : Int) := by omega
  have HB := Lib.hid hb
  have HL := Lib.hid hl
  clear hl HT hxb hb
  go_enter Tryd.func6, Tryd.ntmps6
  go_upto_region 4 with (first
    | (go_at_call 9; refine HAW.out.mono ?_; rintro e w0 ⟨rfl, hc0⟩)
    | (go_at_call 10; refine (HNW.out _).mono ?_; rintro e w1 ⟨cs, F, rfl, hown, hnd, hlo, hch⟩; have hown' := hown; obtain ⟨v1, v2, v3, F1, F2, F3, rfl, o1, o2, o3, -⟩ := hown'; obtain ⟨x1, y1, p1⟩ := Rep.opened o1; obtain ⟨n1, m1, rfl, -⟩ := p1.val; obtain ⟨x2, y2, p2⟩ := Rep.opened o2; obtain ⟨n2, m2, rfl, -⟩ := p2.val; obtain ⟨x3, y3, p3⟩ := Rep.opened o3; obtain ⟨n3, m3, rfl, -⟩ := p3.val; clear o1 o2 o3 p1 p2 p3))
  have hch' := hc0.trans' hch
  have HO := Lib.hid (show Own hpR w (w1.alloc (.cells _ 30)) w1.heap.size 0 (newM 0 0) F from ⟨Here.made w1 30 _ (newM 0 0) F hown hnd, hch'.allocR _, hch'.size, fun k hk => by have := hlo k hk; have := hc0.size; omega⟩)
  clear HNW HAW hown hnd hlo hch hch' hc0
  generalize w1.alloc (.cells #[.int .i64 (newM 0 0).base, .int .i64 (newM 0 0).stride, .slice n1 (newM 0 0).slots.length m1, .slice n2 (newM 0 0).free.length m2, .int .i64 (newM 0 0).live, .int .i64 (newM 0 0).global, .int .i64 (newM 0 0).texts, .slice n3 (newM 0 0).protos.length m3] 30) = W2 at *
  generalize w1.heap.size = bh at *
  have hmk := make_any W2 bh (newM 0 0) F 0 HO.out.here rfl rfl (of_decide_eq_true (by kernel_rfl)) rfl (by omega)
  rw [show handleM (newM 0 0).base (newM 0 0).stride (newM 0 0).slots.length = 13 by kernel_rfl, show ((0 : Nat) : Int) = 0 from rfl] at hmk
  have HMK := Lib.hid hmk
  have HPB := Lib.hid OHp.begin
  have HH0 := Lib.hid (HS.of HO.out)
  clear hmk
  generalize addedM (newM 0 0) ⟨true, newObj 0 ((newM 0 0).protos.getD 0 0)⟩ = hp0 at *
  generalize newM 0 0 = hpn at *
  go_upto_region 5 with (go_at_call 11; refine HMK.out.mono ?_; rintro e Wm ⟨rfl, hA⟩)
  obtain ⟨Fm, hrm⟩ := HH0.out.heapS hA.post
  have HH := Lib.hid hrm
  have HPH : Hid (OHp hp0 [] ∧ (kl []).Nodup ∧ ([] : List Prp).length ≤ 0) := Lib.hid ⟨HPB.out, List.nodup_nil, Nat.le_refl _⟩
  clear hA hrm HMK HH0 HPB HO
  go_wp2_with fail
  go_loopw [8, 9, 10, 11, 12, 13] (fun u8 u9 _ _ _ _ wr => ∃ (i : Nat) (a : Option Addr) (nn c : Nat) (hp : Hp) (ps : List Prp) (F : List Nat), i ≤ xs.length ∧ u9 = .int .i64 i ∧ u8 = .slice a nn c ∧ Hid (OHp hp ps ∧ (kl ps).Nodup ∧ ps.length ≤ i) ∧ Hid (HS w wr bh hp (.slice a nn c) (ps.map (·.key)) F)) (fun _ u9 _ _ _ _ _ => xs.length - (intOf u9).toNat)
  case atStart => exact ⟨0, none, 0, 0, hp0, [], Fm, by omega, rfl, rfl, HPH, HH⟩
  case round =>
    clear HPH HH
    obtain ⟨i, al, ml, cl, hp, ps, F, hi, rfl, rfl, HPH, HH⟩ := hrel
    by_cases hlt : i < xs.length
    · have i0 : (0 : Int) ≤ (i : Int) := by omega
      have i1 : (i : Int) < (xs.length : Int) := by omega
      have w64 : IntKind.i64.wrap ((i : Int) + 1) = ((i + 1 : Nat) : Int) := IntWalk.i64_in _ (by omega)
      have HLT := Lib.hid hlt
      have hxi : (xs.map Value.string)[i]? = some (.string xs[i]) := by rw [List.getElem?_map, List.getElem?_eq_getElem hlt]; rfl
      obtain ⟨ga, oa, rfl, e1⟩ := argCell HAX.out HH.out.heap.chg hxi
      have HKC : Hid (∀ W, Chg (fun _ => False) w W → W.cell? ⟨ga, oa + i, none⟩ = some (.string xs[i])) := Lib.hid (fun W hc => by
        obtain ⟨ga', oa', hv, e⟩ := argCell HAX.out hc hxi
        cases hv
        exact e)
      have hks := HXB.out _ (List.getElem_mem hlt)
      generalize xs[i] = key at *
      have HKS2 : Hid (key.size ≤ 9223372036854775807) := Lib.hid (by unfold maxLen at hks; omega)
      have hps : ps.length ≤ i := HPH.out.2.2
      have hlx := HL.out
      by_cases h40 : 40 < key.size
      · have k40 : (40 : Int) < (key.size : Int) := by omega
        have HHX := Lib.hid HH.out.heap.chg
        clear hxi hks hps hlx hi hlt
        go_wp2_with fail
        go_ret
        exact ⟨rfl, HHX.out.below (Nat.le_refl _) (fun _ x => x.elim)⟩
      · have k40 : ¬ (40 : Int) < (key.size : Int) := by omega
        obtain ⟨hp2, ps2, j, hj, q1, q2, ⟨q3, q4, q5, q6⟩, q7, q8, q9, q10⟩ := putOne_at HPH.out.1 HPH.out.2.1 (by omega) key (i : Int)
        have HPU := Lib.hid q10
        have how2 := fun W b F H => ownOne_at q1 W b F key H q2 hj
        have hlen : (ps2.map (·.key)).length ≤ i + 1 := by
          cases hf : findP key ps 0 with
          | none => rw [q8 hf, List.length_append, List.length_map]; show ps.length + 1 ≤ i + 1; omega
          | some j => rw [q9 (by rw [hf]; rfl), List.length_map]; omega
        rw [List.length_map] at hlen
        have HOW2 := Lib.hid (fun W b F H => how2 W b F H (by omega))
        rw [q3, q4, q5, q6] at HOW2
        have HPN : Hid (OHp hp2 ps2 ∧ (kl ps2).Nodup ∧ ps2.length ≤ i + 1) := Lib.hid ⟨q1, q7, hlen⟩
        have HQ8 := Lib.hid q8
        have HQ9 := Lib.hid q9
        have HFW : Hid (Few ((ps.map (·.key)).length + 1)) := Lib.hid (⟨by rw [List.length_map]; omega⟩ : Few _)
        clear q1 q2 q3 q4 q5 q6 q7 q8 q9 q10 how2 hlen hj hxi hks hps hlx hi hlt
        cases hf : findP key ps 0 with
        | none =>
          have HPE := Lib.hid (HQ8.out hf)
          have HOW := Lib.hid (fun W F H => ownOne_gone HPH.out.1 W bh F key H hf)
          clear HQ8 HQ9 hf
          go_upto_region 12 with (go_at_call 23; refine (HOW.out _ _ HH.out.heap.here).mono ?_; rintro e wq ⟨rfl, hcq⟩)
          have HHB := Lib.hid ((HH.out.still hcq).alloc (.cells #[.int .i64 0, .int .i64 0, .string ⟨#[]⟩, .int .i64 0] 36))
          clear hcq HOW HPH HH
          generalize wq.alloc (.cells #[.int .i64 0, .int .i64 0, .string ⟨#[]⟩, .int .i64 0] 36) = w1 at *
          have e2 := HKC.out _ HHB.out.heap.chg
          have HO5 := Lib.hid (HHB.out.li.alloc (.cells #[.string key] 9))
          go_upto_region 14 with (at_builtin; refine wpList_outS rfl (.tmp 57) (.tmp 62) rfl _ (ps.map (·.key)) rfl HO5.out _ [key] rfl (RowAt.lit [.string key] rfl (by simp [maxLen])) HFW.out ?_; intro a2 n2 c2 wl HO6 hch2 hold2)
          have hrs := (HHB.out.still (Chg.alloc (fun _ => False) w1 (.cells #[.string key] 9))).liS hch2 HO6 hold2
          have HHN := Lib.hid hrs
          clear hrs hch2 HO6 hold2 HO5 HHB e2
          have HS0 : Hid (wl.cell? ⟨ga, oa + i, none⟩ = some (.string key)) := Lib.hid (HKC.out _ HHN.out.heap.chg)
          refine wp_region_held_split 7 (fun w' => w'.cell? ⟨ga, oa + i, none⟩ = some (.string key)) (by kernel_rfl) (by kernel_rfl) ?_ (fun hHeld => ?_)
          · (first | exact HS0.out | exact HKS.out _ HCC.out)
          simp only [List.take_succ_cons, List.take_zero]
          have HKS : Hid (∀ W, Chg (fun _ => False) wl.drew W → W.cell? ⟨ga, oa + i, none⟩ = some (.string key)) := Lib.hid (fun W hc => hc.cell HS0.out)
          have HWD : Hid (Chg (fun _ => False) wl wl.drew) := Lib.hid (Chg.refl _ wl).drewR
          generalize wl.drew = wD at *
          have HCC := Lib.hid (Chg.refl (fun _ => False) wD)
          refine wpAnyH_take (i := 0) (v := ?_) rfl (by kernel_rfl) (by kernel_rfl) (by kernel_rfl) (fun _ _ _ h => h) (Or.inl ⟨by rfl, ?_⟩) (by assumption) ?_
          rotate_left
          · (intro wq hSw; (try dsimp only at hSw); go_simp; (try with_reducible rfl))
          simp only [Act.put, List.getElem_toArray, List.getElem_cons_zero, List.getElem_cons_succ, List.setIfInBounds_toArray, List.set_cons_zero, List.set_cons_succ]
          refine wpAnyH_take (i := 1) (v := ?_) rfl (by kernel_rfl) (by kernel_rfl) (by kernel_rfl) (fun _ _ _ h => h) (Or.inl ⟨by rfl, ?_⟩) (by assumption) ?_
          rotate_left
          · (intro wq hSw; (try dsimp only at hSw); go_simp; (try with_reducible rfl))
          simp only [Act.put, List.getElem_toArray, List.getElem_cons_zero, List.getElem_cons_succ, List.setIfInBounds_toArray, List.set_cons_zero, List.set_cons_succ]
          refine wpAnyH_take (i := 2) (v := ?_) rfl (by kernel_rfl) (by kernel_rfl) (by kernel_rfl) (fun _ _ _ h => h) (Or.inl ⟨by rfl, ?_⟩) (by assumption) ?_
          rotate_left
          · (intro wq hSw; (try dsimp only at hSw); go_simp; (try with_reducible rfl))
          simp only [Act.put, List.getElem_toArray, List.getElem_cons_zero, List.getElem_cons_succ, List.setIfInBounds_toArray, List.set_cons_zero, List.set_cons_succ]
          refine wpAnyH_take (i := 3) (v := ?_) rfl (by kernel_rfl) (by kernel_rfl) (by kernel_rfl) (fun _ _ _ h => h) (Or.inl ⟨by rfl, ?_⟩) (by assumption) ?_
          rotate_left
          · (intro wq hSw; (try dsimp only at hSw); go_simp; (try with_reducible rfl))
          simp only [Act.put, List.getElem_toArray, List.getElem_cons_zero, List.getElem_cons_succ, List.setIfInBounds_toArray, List.set_cons_zero, List.set_cons_succ]
          refine wpAnyH_take (i := 4) (v := ?_) rfl (by kernel_rfl) (by kernel_rfl) (by kernel_rfl) (fun _ _ _ h => h) (Or.inl ⟨by rfl, ?_⟩) (by assumption) ?_
          rotate_left
          · (intro wq hSw; (try dsimp only at hSw); go_simp; (try with_reducible rfl))
          simp only [Act.put, List.getElem_toArray, List.getElem_cons_zero, List.getElem_cons_succ, List.setIfInBounds_toArray, List.set_cons_zero, List.set_cons_succ]
          refine wpAnyH_take (i := 5) (v := ?_) rfl (by kernel_rfl) (by kernel_rfl) (by kernel_rfl) (fun _ _ _ h => h) (Or.inl ⟨by rfl, ?_⟩) (by assumption) ?_
          rotate_left
          · (intro wq hSw; (try dsimp only at hSw); go_simp; (try with_reducible rfl))
          simp only [Act.put, List.getElem_toArray, List.getElem_cons_zero, List.getElem_cons_succ, List.setIfInBounds_toArray, List.set_cons_zero, List.set_cons_succ]
          refine wpAnyH_ready (rs := [6]) (by kernel_rfl) (by simp) ?_
          refine AllReadyH.cons (by simp only [List.getElem?_toArray, List.getElem?_cons_succ, List.getElem?_cons_zero]; rfl) (fun K hK => ?_) AllReadyH.nil
          (go_simp; go_at_call 25; refine (HOF.out _ _).mono ?_; rintro _ wd ⟨rfl, hcd⟩; have HCC := Lib.hid (HCC.out.trans' hcd); clear hcd; go_simp)
          refine hK.out _ _ ?_ (fun hHeld => ?_)
          · (first | exact HS0.out | exact HKS.out _ HCC.out)
          clear hK K
          (try simp only [Act.put, List.getElem_toArray, List.getElem_cons_zero, List.getElem_cons_succ, List.setIfInBounds_toArray, List.set_cons_zero, List.set_cons_succ])
          refine wpAnyH_done (by kernel_rfl) ?_ _
          change wpList _ _ _ _ _ _
          simp only [List.drop_succ_cons, List.drop_zero]
          have HHD := Lib.hid ((HHN.out.still HWD.out).still HCC.out)
          clear HS0 HKS hHeld
          go_upto_region 16 with (go_at_call 24; refine (HPU.out _ _ _ HHD.out.heap.here).mono ?_; rintro e w3 ⟨rfl, hp3⟩)
          obtain ⟨F3, hr3⟩ := HHD.out.heapS hp3
          have HH3 := Lib.hid hr3
          have e3 := HKC.out _ HH3.out.heap.chg
          clear hp3 hr3 HHD HWD HCC HPU
          go_upto_region 17 with (go_at_call 23; refine (HOW2.out _ _ _ HH3.out.heap.here).mono ?_; rintro e wo ⟨rfl, hco⟩)
          have hb12 := alloc_block wo (.cells #[.int .i64 3, .int .i64 (i : Int), .string ⟨#[]⟩, .int .i64 0] 36)
          have HH4 := Lib.hid ((HH3.out.still hco).alloc (.cells #[.int .i64 3, .int .i64 (i : Int), .string ⟨#[]⟩, .int .i64 0] 36))
          clear hco HH3 e3 HOW2
          generalize wo.alloc (.cells #[.int .i64 3, .int .i64 (i : Int), .string ⟨#[]⟩, .int .i64 0] 36) = w8 at *
          generalize wo.heap.size = b12 at *
          have m0 := cell_of_block (i := 0) hb12 rfl
          have m1 := cell_of_block (i := 1) hb12 rfl
          have m2 := cell_of_block (i := 2) hb12 rfl
          have m3 := cell_of_block (i := 3) hb12 rfl
          simp only [List.getElem_toArray, List.getElem_cons_zero, List.getElem_cons_succ] at m0 m1 m2 m3
          have HS0 : Hid (w8.cell? ⟨b12, 0, none⟩ = some (.int .i64 3) ∧ w8.cell? ⟨b12, 1, none⟩ = some (.int .i64 (i : Int)) ∧ w8.cell? ⟨b12, 2, none⟩ = some (.string ⟨#[]⟩) ∧ w8.cell? ⟨b12, 3, none⟩ = some (.int .i64 0)) := Lib.hid ⟨m0, m1, m2, m3⟩
          clear m0 m1 m2 m3 hb12
          refine wp_region_held_split 7 (fun w' => w'.cell? ⟨b12, 0, none⟩ = some (.int .i64 3) ∧ w'.cell? ⟨b12, 1, none⟩ = some (.int .i64 (i : Int)) ∧ w'.cell? ⟨b12, 2, none⟩ = some (.string ⟨#[]⟩) ∧ w'.cell? ⟨b12, 3, none⟩ = some (.int .i64 0)) (by kernel_rfl) (by kernel_rfl) ?_ (fun hHeld => ?_)
          · (first | exact HS0.out | exact HKS.out _ HCC.out)
          simp only [List.take_succ_cons, List.take_zero]
          have HKS : Hid (∀ W, Chg (fun _ => False) w8.drew W → W.cell? ⟨b12, 0, none⟩ = some (.int .i64 3) ∧ W.cell? ⟨b12, 1, none⟩ = some (.int .i64 (i : Int)) ∧ W.cell? ⟨b12, 2, none⟩ = some (.string ⟨#[]⟩) ∧ W.cell? ⟨b12, 3, none⟩ = some (.int .i64 0)) := Lib.hid (fun W hc => ⟨hc.cell HS0.out.1, hc.cell HS0.out.2.1, hc.cell HS0.out.2.2.1, hc.cell HS0.out.2.2.2⟩)
          have HWD : Hid (Chg (fun _ => False) w8 w8.drew) := Lib.hid (Chg.refl _ w8).drewR
          generalize w8.drew = wD at *
          have HCC := Lib.hid (Chg.refl (fun _ => False) wD)
          refine wpAnyH_take (i := 0) (v := ?_) rfl (by kernel_rfl) (by kernel_rfl) (by kernel_rfl) (fun _ _ _ h => h) (Or.inl ⟨by rfl, ?_⟩) (by assumption) ?_
          rotate_left
          · (intro wq hSw; (try dsimp only at hSw); go_simp; (try with_reducible rfl))
          simp only [Act.put, List.getElem_toArray, List.getElem_cons_zero, List.getElem_cons_succ, List.setIfInBounds_toArray, List.set_cons_zero, List.set_cons_succ]
          refine wpAnyH_take (i := 1) (v := ?_) rfl (by kernel_rfl) (by kernel_rfl) (by kernel_rfl) (fun _ _ _ h => h) (Or.inl ⟨by rfl, ?_⟩) (by assumption) ?_
          rotate_left
          · (intro wq hSw; (try dsimp only at hSw); go_simp; (try with_reducible rfl))
          simp only [Act.put, List.getElem_toArray, List.getElem_cons_zero, List.getElem_cons_succ, List.setIfInBounds_toArray, List.set_cons_zero, List.set_cons_succ]
          refine wpAnyH_take (i := 2) (v := ?_) rfl (by kernel_rfl) (by kernel_rfl) (by kernel_rfl) (fun _ _ _ h => h) (Or.inl ⟨by rfl, ?_⟩) (by assumption) ?_
          rotate_left
          · (intro wq hSw; (try dsimp only at hSw); go_simp; (try with_reducible rfl))
          simp only [Act.put, List.getElem_toArray, List.getElem_cons_zero, List.getElem_cons_succ, List.setIfInBounds_toArray, List.set_cons_zero, List.set_cons_succ]
          first
          | (refine wpAnyH_take (i := 3) (v := undef) rfl (by kernel_rfl) (by kernel_rfl) (by kernel_rfl) (fun _ _ _ h => h) (Or.inr ⟨by rfl, rfl⟩) (by assumption) ?_)
          | (refine wpAnyH_take (i := 3) (v := ?_) rfl (by kernel_rfl) (by kernel_rfl) (by kernel_rfl) (fun _ _ _ h => h) (Or.inl ⟨by rfl, ?_⟩) (by assumption) ?_; rotate_left; (focus (intro wq hSw; (try dsimp only at hSw); go_simp; (try with_reducible rfl))))
          simp only [Act.put, List.getElem_toArray, List.getElem_cons_zero, List.getElem_cons_succ, List.setIfInBounds_toArray, List.set_cons_zero, List.set_cons_succ]
          first
          | (refine wpAnyH_take (i := 4) (v := undef) rfl (by kernel_rfl) (by kernel_rfl) (by kernel_rfl) (fun _ _ _ h => h) (Or.inr ⟨by rfl, rfl⟩) (by assumption) ?_)
          | (refine wpAnyH_take (i := 4) (v := ?_) rfl (by kernel_rfl) (by kernel_rfl) (by kernel_rfl) (fun _ _ _ h => h) (Or.inl ⟨by rfl, ?_⟩) (by assumption) ?_; rotate_left; (focus (intro wq hSw; (try dsimp only at hSw); go_simp; (try with_reducible rfl))))
          simp only [Act.put, List.getElem_toArray, List.getElem_cons_zero, List.getElem_cons_succ, List.setIfInBounds_toArray, List.set_cons_zero, List.set_cons_succ]
          refine wpAnyH_ready (rs := [5]) (by kernel_rfl) (by simp) ?_
          refine AllReadyH.cons (by simp only [List.getElem?_toArray, List.getElem?_cons_succ, List.getElem?_cons_zero]; rfl) (fun K hK => ?_) AllReadyH.nil
          (go_simp; go_at_call 25; refine (HOF.out _ _).mono ?_; rintro _ wd ⟨rfl, hcd⟩; have HCC := Lib.hid (HCC.out.trans' hcd); clear hcd; go_simp)
          refine hK.out _ _ ?_ (fun hHeld => ?_)
          · (first | exact HS0.out | exact HKS.out _ HCC.out)
          clear hK K
          (try simp only [Act.put, List.getElem_toArray, List.getElem_cons_zero, List.getElem_cons_succ, List.setIfInBounds_toArray, List.set_cons_zero, List.set_cons_succ])
          first
          | (refine wpAnyH_take (i := 6) (v := undef) rfl (by kernel_rfl) (by kernel_rfl) (by kernel_rfl) (fun _ _ _ h => h) (Or.inr ⟨by rfl, rfl⟩) (by assumption) ?_)
          | (refine wpAnyH_take (i := 6) (v := ?_) rfl (by kernel_rfl) (by kernel_rfl) (by kernel_rfl) (fun _ _ _ h => h) (Or.inl ⟨by rfl, ?_⟩) (by assumption) ?_; rotate_left; (focus (intro wq hSw; (try dsimp only at hSw); go_simp; (try with_reducible rfl))))
          simp only [Act.put, List.getElem_toArray, List.getElem_cons_zero, List.getElem_cons_succ, List.setIfInBounds_toArray, List.set_cons_zero, List.set_cons_succ]
          refine wpAnyH_done (by kernel_rfl) ?_ _
          change wpList _ _ _ _ _ _
          simp only [List.drop_succ_cons, List.drop_zero]
          have HHE := Lib.hid ((HH4.out.still HWD.out).still HCC.out)
          clear HS0 HKS hHeld HWD HCC HH4
          go_wp2_with fail
          go_roundw
          case rel => exact ⟨i + 1, a2, n2, c2, hp2, ps2, F3, by have := HLT.out; omega, rfl, rfl, HPN, by rw [HPE.out]; exact HHE⟩
          case measure => have := HLT.out; simp [intOf, w64]; omega
        | some j0 =>
          have HPE := Lib.hid (HQ9.out (by rw [hf]; rfl))
          have hj0 := findP_lt hf
          have HOW := Lib.hid (fun W F H => ownOne_at HPH.out.1 W bh F key H hf hj0 (by have := HPH.out.2.2; have := HL.out; have := HLT.out; omega))
          generalize ps[j0].vkind = y0 at HOW
          generalize ps[j0].vint = y1 at HOW
          generalize ps[j0].vstr = y2 at HOW
          generalize ps[j0].vref = y3 at HOW
          clear HQ8 HQ9 hf
          go_upto_region 14 with (go_at_call 23; refine (HOW.out _ _ HH.out.heap.here).mono ?_; rintro e wq ⟨rfl, hcq⟩)
          have HHN := Lib.hid ((HH.out.still hcq).alloc (.cells #[.int .i64 y0, .int .i64 y1, .string y2, .int .i64 y3] 36))
          clear hcq HOW HPH HH
          generalize wq.alloc (.cells #[.int .i64 y0, .int .i64 y1, .string y2, .int .i64 y3] 36) = wl at *
          have HS0 : Hid (wl.cell? ⟨ga, oa + i, none⟩ = some (.string key)) := Lib.hid (HKC.out _ HHN.out.heap.chg)
          refine wp_region_held_split 7 (fun w' => w'.cell? ⟨ga, oa + i, none⟩ = some (.string key)) (by kernel_rfl) (by kernel_rfl) ?_ (fun hHeld => ?_)
          · (first | exact HS0.out | exact HKS.out _ HCC.out)
          simp only [List.take_succ_cons, List.take_zero]
          have HKS : Hid (∀ W, Chg (fun _ => False) wl.drew W → W.cell? ⟨ga, oa + i, none⟩ = some (.string key)) := Lib.hid (fun W hc => hc.cell HS0.out)
          have HWD : Hid (Chg (fun _ => False) wl wl.drew) := Lib.hid (Chg.refl _ wl).drewR
          generalize wl.drew = wD at *
          have HCC := Lib.hid (Chg.refl (fun _ => False) wD)
          refine wpAnyH_take (i := 0) (v := ?_) rfl (by kernel_rfl) (by kernel_rfl) (by kernel_rfl) (fun _ _ _ h => h) (Or.inl ⟨by rfl, ?_⟩) (by assumption) ?_
          rotate_left
          · (intro wq hSw; (try dsimp only at hSw); go_simp; (try with_reducible rfl))
          simp only [Act.put, List.getElem_toArray, List.getElem_cons_zero, List.getElem_cons_succ, List.setIfInBounds_toArray, List.set_cons_zero, List.set_cons_succ]
          refine wpAnyH_take (i := 1) (v := ?_) rfl (by kernel_rfl) (by kernel_rfl) (by kernel_rfl) (fun _ _ _ h => h) (Or.inl ⟨by rfl, ?_⟩) (by assumption) ?_
          rotate_left
          · (intro wq hSw; (try dsimp only at hSw); go_simp; (try with_reducible rfl))
          simp only [Act.put, List.getElem_toArray, List.getElem_cons_zero, List.getElem_cons_succ, List.setIfInBounds_toArray, List.set_cons_zero, List.set_cons_succ]
          refine wpAnyH_take (i := 2) (v := ?_) rfl (by kernel_rfl) (by kernel_rfl) (by kernel_rfl) (fun _ _ _ h => h) (Or.inl ⟨by rfl, ?_⟩) (by assumption) ?_
          rotate_left
          · (intro wq hSw; (try dsimp only at hSw); go_simp; (try with_reducible rfl))
          simp only [Act.put, List.getElem_toArray, List.getElem_cons_zero, List.getElem_cons_succ, List.setIfInBounds_toArray, List.set_cons_zero, List.set_cons_succ]
          refine wpAnyH_take (i := 3) (v := ?_) rfl (by kernel_rfl) (by kernel_rfl) (by kernel_rfl) (fun _ _ _ h => h) (Or.inl ⟨by rfl, ?_⟩) (by assumption) ?_
          rotate_left
          · (intro wq hSw; (try dsimp only at hSw); go_simp; (try with_reducible rfl))
          simp only [Act.put, List.getElem_toArray, List.getElem_cons_zero, List.getElem_cons_succ, List.setIfInBounds_toArray, List.set_cons_zero, List.set_cons_succ]
          refine wpAnyH_take (i := 4) (v := ?_) rfl (by kernel_rfl) (by kernel_rfl) (by kernel_rfl) (fun _ _ _ h => h) (Or.inl ⟨by rfl, ?_⟩) (by assumption) ?_
          rotate_left
          · (intro wq hSw; (try dsimp only at hSw); go_simp; (try with_reducible rfl))
          simp only [Act.put, List.getElem_toArray, List.getElem_cons_zero, List.getElem_cons_succ, List.setIfInBounds_toArray, List.set_cons_zero, List.set_cons_succ]
          refine wpAnyH_take (i := 5) (v := ?_) rfl (by kernel_rfl) (by kernel_rfl) (by kernel_rfl) (fun _ _ _ h => h) (Or.inl ⟨by rfl, ?_⟩) (by assumption) ?_
          rotate_left
          · (intro wq hSw; (try dsimp only at hSw); go_simp; (try with_reducible rfl))
          simp only [Act.put, List.getElem_toArray, List.getElem_cons_zero, List.getElem_cons_succ, List.setIfInBounds_toArray, List.set_cons_zero, List.set_cons_succ]
          refine wpAnyH_ready (rs := [6]) (by kernel_rfl) (by simp) ?_
          refine AllReadyH.cons (by simp only [List.getElem?_toArray, List.getElem?_cons_succ, List.getElem?_cons_zero]; rfl) (fun K hK => ?_) AllReadyH.nil
          (go_simp; go_at_call 25; refine (HOF.out _ _).mono ?_; rintro _ wd ⟨rfl, hcd⟩; have HCC := Lib.hid (HCC.out.trans' hcd); clear hcd; go_simp)
          refine hK.out _ _ ?_ (fun hHeld => ?_)
          · (first | exact HS0.out | exact HKS.out _ HCC.out)
          clear hK K
          (try simp only [Act.put, List.getElem_toArray, List.getElem_cons_zero, List.getElem_cons_succ, List.setIfInBounds_toArray, List.set_cons_zero, List.set_cons_succ])
          refine wpAnyH_done (by kernel_rfl) ?_ _
          change wpList _ _ _ _ _ _
          simp only [List.drop_succ_cons, List.drop_zero]
          have HHD := Lib.hid ((HHN.out.still HWD.out).still HCC.out)
          clear HS0 HKS hHeld
          go_upto_region 16 with (go_at_call 24; refine (HPU.out _ _ _ HHD.out.heap.here).mono ?_; rintro e w3 ⟨rfl, hp3⟩)
          obtain ⟨F3, hr3⟩ := HHD.out.heapS hp3
          have HH3 := Lib.hid hr3
          have e3 := HKC.out _ HH3.out.heap.chg
          clear hp3 hr3 HHD HWD HCC HPU
          go_upto_region 17 with (go_at_call 23; refine (HOW2.out _ _ _ HH3.out.heap.here).mono ?_; rintro e wo ⟨rfl, hco⟩)
          have hb12 := alloc_block wo (.cells #[.int .i64 3, .int .i64 (i : Int), .string ⟨#[]⟩, .int .i64 0] 36)
          have HH4 := Lib.hid ((HH3.out.still hco).alloc (.cells #[.int .i64 3, .int .i64 (i : Int), .string ⟨#[]⟩, .int .i64 0] 36))
          clear hco HH3 e3 HOW2
          generalize wo.alloc (.cells #[.int .i64 3, .int .i64 (i : Int), .string ⟨#[]⟩, .int .i64 0] 36) = w8 at *
          generalize wo.heap.size = b12 at *
          have m0 := cell_of_block (i := 0) hb12 rfl
          have m1 := cell_of_block (i := 1) hb12 rfl
          have m2 := cell_of_block (i := 2) hb12 rfl
          have m3 := cell_of_block (i := 3) hb12 rfl
          simp only [List.getElem_toArray, List.getElem_cons_zero, List.getElem_cons_succ] at m0 m1 m2 m3
          have HS0 : Hid (w8.cell? ⟨b12, 0, none⟩ = some (.int .i64 3) ∧ w8.cell? ⟨b12, 1, none⟩ = some (.int .i64 (i : Int)) ∧ w8.cell? ⟨b12, 2, none⟩ = some (.string ⟨#[]⟩) ∧ w8.cell? ⟨b12, 3, none⟩ = some (.int .i64 0)) := Lib.hid ⟨m0, m1, m2, m3⟩
          clear m0 m1 m2 m3 hb12
          refine wp_region_held_split 7 (fun w' => w'.cell? ⟨b12, 0, none⟩ = some (.int .i64 3) ∧ w'.cell? ⟨b12, 1, none⟩ = some (.int .i64 (i : Int)) ∧ w'.cell? ⟨b12, 2, none⟩ = some (.string ⟨#[]⟩) ∧ w'.cell? ⟨b12, 3, none⟩ = some (.int .i64 0)) (by kernel_rfl) (by kernel_rfl) ?_ (fun hHeld => ?_)
          · (first | exact HS0.out | exact HKS.out _ HCC.out)
          simp only [List.take_succ_cons, List.take_zero]
          have HKS : Hid (∀ W, Chg (fun _ => False) w8.drew W → W.cell? ⟨b12, 0, none⟩ = some (.int .i64 3) ∧ W.cell? ⟨b12, 1, none⟩ = some (.int .i64 (i : Int)) ∧ W.cell? ⟨b12, 2, none⟩ = some (.string ⟨#[]⟩) ∧ W.cell? ⟨b12, 3, none⟩ = some (.int .i64 0)) := Lib.hid (fun W hc => ⟨hc.cell HS0.out.1, hc.cell HS0.out.2.1, hc.cell HS0.out.2.2.1, hc.cell HS0.out.2.2.2⟩)
          have HWD : Hid (Chg (fun _ => False) w8 w8.drew) := Lib.hid (Chg.refl _ w8).drewR
          generalize w8.drew = wD at *
          have HCC := Lib.hid (Chg.refl (fun _ => False) wD)
          refine wpAnyH_take (i := 0) (v := ?_) rfl (by kernel_rfl) (by kernel_rfl) (by kernel_rfl) (fun _ _ _ h => h) (Or.inl ⟨by rfl, ?_⟩) (by assumption) ?_
          rotate_left
          · (intro wq hSw; (try dsimp only at hSw); go_simp; (try with_reducible rfl))
          simp only [Act.put, List.getElem_toArray, List.getElem_cons_zero, List.getElem_cons_succ, List.setIfInBounds_toArray, List.set_cons_zero, List.set_cons_succ]
          refine wpAnyH_take (i := 1) (v := ?_) rfl (by kernel_rfl) (by kernel_rfl) (by kernel_rfl) (fun _ _ _ h => h) (Or.inl ⟨by rfl, ?_⟩) (by assumption) ?_
          rotate_left
          · (intro wq hSw; (try dsimp only at hSw); go_simp; (try with_reducible rfl))
          simp only [Act.put, List.getElem_toArray, List.getElem_cons_zero, List.getElem_cons_succ, List.setIfInBounds_toArray, List.set_cons_zero, List.set_cons_succ]
          refine wpAnyH_take (i := 2) (v := ?_) rfl (by kernel_rfl) (by kernel_rfl) (by kernel_rfl) (fun _ _ _ h => h) (Or.inl ⟨by rfl, ?_⟩) (by assumption) ?_
          rotate_left
          · (intro wq hSw; (try dsimp only at hSw); go_simp; (try with_reducible rfl))
          simp only [Act.put, List.getElem_toArray, List.getElem_cons_zero, List.getElem_cons_succ, List.setIfInBounds_toArray, List.set_cons_zero, List.set_cons_succ]
          first
          | (refine wpAnyH_take (i := 3) (v := undef) rfl (by kernel_rfl) (by kernel_rfl) (by kernel_rfl) (fun _ _ _ h => h) (Or.inr ⟨by rfl, rfl⟩) (by assumption) ?_)
          | (refine wpAnyH_take (i := 3) (v := ?_) rfl (by kernel_rfl) (by kernel_rfl) (by kernel_rfl) (fun _ _ _ h => h) (Or.inl ⟨by rfl, ?_⟩) (by assumption) ?_; rotate_left; (focus (intro wq hSw; (try dsimp only at hSw); go_simp; (try with_reducible rfl))))
          simp only [Act.put, List.getElem_toArray, List.getElem_cons_zero, List.getElem_cons_succ, List.setIfInBounds_toArray, List.set_cons_zero, List.set_cons_succ]
          first
          | (refine wpAnyH_take (i := 4) (v := undef) rfl (by kernel_rfl) (by kernel_rfl) (by kernel_rfl) (fun _ _ _ h => h) (Or.inr ⟨by rfl, rfl⟩) (by assumption) ?_)
          | (refine wpAnyH_take (i := 4) (v := ?_) rfl (by kernel_rfl) (by kernel_rfl) (by kernel_rfl) (fun _ _ _ h => h) (Or.inl ⟨by rfl, ?_⟩) (by assumption) ?_; rotate_left; (focus (intro wq hSw; (try dsimp only at hSw); go_simp; (try with_reducible rfl))))
          simp only [Act.put, List.getElem_toArray, List.getElem_cons_zero, List.getElem_cons_succ, List.setIfInBounds_toArray, List.set_cons_zero, List.set_cons_succ]
          refine wpAnyH_ready (rs := [5]) (by kernel_rfl) (by simp) ?_
          refine AllReadyH.cons (by simp only [List.getElem?_toArray, List.getElem?_cons_succ, List.getElem?_cons_zero]; rfl) (fun K hK => ?_) AllReadyH.nil
          (go_simp; go_at_call 25; refine (HOF.out _ _).mono ?_; rintro _ wd ⟨rfl, hcd⟩; have HCC := Lib.hid (HCC.out.trans' hcd); clear hcd; go_simp)
          refine hK.out _ _ ?_ (fun hHeld => ?_)
          · (first | exact HS0.out | exact HKS.out _ HCC.out)
          clear hK K
          (try simp only [Act.put, List.getElem_toArray, List.getElem_cons_zero, List.getElem_cons_succ, List.setIfInBounds_toArray, List.set_cons_zero, List.set_cons_succ])
          first
          | (refine wpAnyH_take (i := 6) (v := undef) rfl (by kernel_rfl) (by kernel_rfl) (by kernel_rfl) (fun _ _ _ h => h) (Or.inr ⟨by rfl, rfl⟩) (by assumption) ?_)
          | (refine wpAnyH_take (i := 6) (v := ?_) rfl (by kernel_rfl) (by kernel_rfl) (by kernel_rfl) (fun _ _ _ h => h) (Or.inl ⟨by rfl, ?_⟩) (by assumption) ?_; rotate_left; (focus (intro wq hSw; (try dsimp only at hSw); go_simp; (try with_reducible rfl))))
          simp only [Act.put, List.getElem_toArray, List.getElem_cons_zero, List.getElem_cons_succ, List.setIfInBounds_toArray, List.set_cons_zero, List.set_cons_succ]
          refine wpAnyH_done (by kernel_rfl) ?_ _
          change wpList _ _ _ _ _ _
          simp only [List.drop_succ_cons, List.drop_zero]
          have HHE := Lib.hid ((HH4.out.still HWD.out).still HCC.out)
          clear HS0 HKS hHeld HWD HCC HH4
          go_wp2_with fail
          go_roundw
          case rel => exact ⟨i + 1, al, ml, cl, hp2, ps2, F3, by have := HLT.out; omega, rfl, rfl, HPN, by rw [HPE.out]; exact HHE⟩
          case measure => have := HLT.out; simp [intOf, w64]; omega
    · have hi2 : i = xs.length := by omega
      subst hi2
      obtain ⟨ax, cx, hv, -, -⟩ := HH.out.li.val
      cases hv
      rw [List.length_map] at *
      have HLP : Hid (ps.length ≤ 30) := Lib.hid (by have := HPH.out.2.2; have := HL.out; omega)
      clear hlt hi
      by_cases hm : ps.length = 0
      · have m0 : ¬ (0 : Int) < (ps.length : Int) := by omega
        have HPF : Hid (OHp hp ps ∧ ps.length ≤ 1000) := Lib.hid ⟨HPH.out.1, by have := HLP.out; omega⟩
        clear HPH
        have HKY := Lib.hid (keysOne_at HPF.out.1 (by have := HPF.out.2; omega) _ _ _ HH.out.heap.here)
        go_upto_region 29 with (go_at_call 27; refine HKY.out.mono ?_; rintro e wk ⟨vk, rfl, hko⟩)
        obtain ⟨ak, ck, rfl, -, -⟩ := hko.val
        have HKO := Lib.hid hko
        have HHK := Lib.hid (HH.out.still hko.chg)
        clear hko HKY HH HPF
        rw [List.length_map] at *
        go_wp2_with fail
        go_loopw [19] (fun u19 wr2 => ∃ q : Nat, q ≤ ps.length ∧ u19 = .int .i64 q ∧ Hid (Chg (fun _ => False) wk wr2)) (fun u19 _ => ps.length - (intOf u19).toNat)
        case atStart => exact ⟨0, by omega, rfl, Lib.hid (Chg.refl _ _)⟩
        case round =>
          obtain ⟨q, hq, rfl, HCR⟩ := hrel
          by_cases hlt : q < ps.length
          · exfalso; omega
          · have hqe : q = ps.length := by omega
            subst hqe
            have HCE := Lib.hid (HHK.out.heap.chg.trans' HCR.out)
            clear hlt hq
            go_wp2_with fail
            go_ret
            exact ⟨rfl, HCE.out.below (Nat.le_refl _) (fun _ x => x.elim)⟩
      · obtain ⟨k, hke, hk⟩ : ∃ k, k = nb % ps.length ∧ k < ps.length := ⟨_, rfl, Nat.mod_lt _ (by omega)⟩
        obtain ⟨gl, ol, cl2, hv, c1⟩ := HH.out.li.at (k := k) (by rw [List.length_map]; exact hk)
        rw [List.length_map] at hv
        cases hv
        rw [List.getElem_map] at c1
        have hnb := HB.out
        have hlp := HLP.out
        have wnb : wrap64 (nb : Int) = (nb : Int) := IntWalk.wrap64_in _ (by omega)
        have t1 : ((nb : Int)).tmod (ps.length : Int) = (k : Int) := by rw [hke, Int.tmod_eq_emod_of_nonneg (by omega)]; rfl
        have t3 : ((nb : Int)) % (ps.length : Int) = (k : Int) := by rw [hke]; rfl
        have u1 : IntKind.i64.wrap (k : Int) = (k : Int) := IntWalk.i64_in _ (by omega)
        have u2 : IntKind.i64.wrap ((k : Int) + 1) = ((k + 1 : Nat) : Int) := IntWalk.i64_in _ (by omega)
        have k0 : (0 : Int) ≤ (k : Int) := by omega
        have k1 : (k : Int) < (ps.length : Int) := by omega
        have m0 : (0 : Int) < (ps.length : Int) := by omega
        have m1 : ¬ (ps.length : Int) = 0 := by omega
        obtain ⟨hp2, hO2, hd1, hd2⟩ := delOne_at HPH.out.1 HPH.out.2.1 (by omega) hk
        obtain ⟨d1, d2, d3, d4⟩ := del_law HPH.out.2.1 hk
        have hl2 : (ps.take k ++ ps.drop (k + 1)).length ≤ 30 := by rw [List.length_append, List.length_take, List.length_drop]; omega
        obtain ⟨hp3, ps3, j, hj, q1, q2, -, q7, q8, -, q10⟩ := putOne_at hO2 d4 (by omega) ps[k].key 1
        have hpe := q8 d2
        rw [d3] at hpe
        have hl3 : ps3.length = ps.length := by
          have := congrArg List.length hpe
          rw [List.length_map, List.length_append, List.length_append, List.length_take, List.length_drop, List.length_map] at this
          simp only [List.length_singleton] at this
          omega
        have HD1 := Lib.hid hd1
        have HD2 := Lib.hid hd2
        have HPE := Lib.hid hpe
        have HPU := Lib.hid q10
        have HOW := Lib.hid (fun W F H => ownOne_gone hO2 W bh F ps[k].key H d2)
        have HL3 := Lib.hid hl3
        have HPF : Hid (OHp hp3 ps3 ∧ ps3.length ≤ 1000) := Lib.hid ⟨q1, by omega⟩
        have HKL := Lib.hid hk
        clear hd1 hd2 hpe q1 q2 q7 q8 q10 d1 d2 d3 d4 hl2 hl3 hj hO2 hnb hlp HPH
        generalize ps[k].key = key at *
        have HPX := Lib.hid (fun W h => RowAt.preS (W := W) (p := some ⟨gl, ol, none⟩) (n := ps.length) (c := cl) (k := k) (L := ps.map (·.key)) h (by rw [List.length_map]; omega) (by rw [List.length_map]))
        have HSX := Lib.hid (fun W h => RowAt.sufS (W := W) (g := gl) (off := ol) (n := ps.length) (c := cl) (k := k + 1) (L := ps.map (·.key)) h (by rw [List.length_map]; omega) (by rw [List.length_map]))
        have HFW : Hid (∀ n, n ≤ 100 → Few n) := Lib.hid (fun n hn => ⟨by omega⟩)
        have kc : k ≤ cl := by
          obtain ⟨ac, cc, hv, hle, -⟩ := HH.out.li.val
          rw [List.length_map] at hv hle
          cases hv
          omega
        have kp : 0 ≤ (k : Int) + 1 := by omega
        have kq : (k : Int) + 1 ≤ (ps.length : Int) := by omega
        clear hke hk hm
        go_upto_region 22 with fail
        go_upto_region 24 with (first
          | (go_at_call 26; refine (HD1.out _ _ _ HH.out.heap.here).mono ?_; rintro e wd1 ⟨rfl, hp1⟩; obtain ⟨F1, hr1⟩ := HH.out.heapS hp1; have HH1 := Lib.hid hr1; clear hp1 hr1 HD1)
          | (go_at_call 26; refine (HD2.out _ _ _ HH1.out.heap.here).mono ?_; rintro e wd2 ⟨rfl, hc2⟩; have HH2 := Lib.hid (HH1.out.still hc2); clear hc2))
        clear HH HH1 HD2 c1
        go_upto_region 25 with (go_at_call 23; refine (HOW.out _ _ HH2.out.heap.here).mono ?_; rintro e wq ⟨rfl, hcq⟩)
        have HH3 := Lib.hid ((HH2.out.still hcq).alloc (.cells #[.int .i64 0, .int .i64 0, .string ⟨#[]⟩, .int .i64 0] 36))
        clear hcq HOW HH2
        generalize wq.alloc (.cells #[.int .i64 0, .int .i64 0, .string ⟨#[]⟩, .int .i64 0] 36) = w4 at *
        go_upto_region 27 with (first
          | (go_at_call 25; refine (HOF.out _ _).mono ?_; rintro e wf ⟨rfl, hcf⟩; have HH4 := Lib.hid (HH3.out.still hcf); clear hcf)
          | (go_at_call 24; refine (HPU.out _ _ _ HH4.out.heap.here).mono ?_; rintro e w5 ⟨rfl, hp5⟩; obtain ⟨F5, hr5⟩ := HH4.out.heapS hp5; have HH5 := Lib.hid hr5; clear hp5 hr5))
        clear HH3 HH4 HPU
        have HKK := Lib.hid ((HK.start HH5.out).still (Chg.refl _ w5).drewR)
        refine wp_region_held_split 12 (fun _ => True) (by kernel_rfl) (by kernel_rfl) ?_ (fun hHeld => ?_)
        · trivial
        simp only [List.take_succ_cons, List.take_zero]
        generalize w5.drew = wD at *
        refine wpAnyH_take (i := 1) (v := ?_) rfl (by kernel_rfl) (by kernel_rfl) (by kernel_rfl) (fun _ _ _ h => h) (Or.inl ⟨by rfl, ?_⟩) (by assumption) ?_
        rotate_left
        · (intro wq hSw; (try dsimp only at hSw); go_simp; (try with_reducible rfl))
        simp only [Act.put, List.getElem_toArray, List.getElem_cons_zero, List.getElem_cons_succ, List.setIfInBounds_toArray, List.set_cons_zero, List.set_cons_succ]
        refine wpAnyH_take (i := 2) (v := ?_) rfl (by kernel_rfl) (by kernel_rfl) (by kernel_rfl) (fun _ _ _ h => h) (Or.inl ⟨by rfl, ?_⟩) (by assumption) ?_
        rotate_left
        · (intro wq hSw; (try dsimp only at hSw); go_simp; (try with_reducible rfl))
        simp only [Act.put, List.getElem_toArray, List.getElem_cons_zero, List.getElem_cons_succ, List.setIfInBounds_toArray, List.set_cons_zero, List.set_cons_succ]
        refine wpAnyH_take (i := 3) (v := ?_) rfl (by kernel_rfl) (by kernel_rfl) (by kernel_rfl) (fun _ _ _ h => h) (Or.inl ⟨by rfl, ?_⟩) (by assumption) ?_
        rotate_left
        · (intro wq hSw; (try dsimp only at hSw); go_simp; (try with_reducible rfl))
        simp only [Act.put, List.getElem_toArray, List.getElem_cons_zero, List.getElem_cons_succ, List.setIfInBounds_toArray, List.set_cons_zero, List.set_cons_succ]
        refine wpAnyH_take (i := 5) (v := ?_) rfl (by kernel_rfl) (by kernel_rfl) (by kernel_rfl) (fun _ _ _ h => h) (Or.inl ⟨by rfl, ?_⟩) (by assumption) ?_
        rotate_left
        · (intro wq hSw; (try dsimp only at hSw); go_simp; (try with_reducible rfl))
        simp only [Act.put, List.getElem_toArray, List.getElem_cons_zero, List.getElem_cons_succ, List.setIfInBounds_toArray, List.set_cons_zero, List.set_cons_succ]
        refine wpAnyH_take (i := 6) (v := ?_) rfl (by kernel_rfl) (by kernel_rfl) (by kernel_rfl) (fun _ _ _ h => h) (Or.inl ⟨by rfl, ?_⟩) (by assumption) ?_
        rotate_left
        · (intro wq hSw; (try dsimp only at hSw); go_simp; (try with_reducible rfl))
        simp only [Act.put, List.getElem_toArray, List.getElem_cons_zero, List.getElem_cons_succ, List.setIfInBounds_toArray, List.set_cons_zero, List.set_cons_succ]
        refine wpAnyH_take (i := 7) (v := ?_) rfl (by kernel_rfl) (by kernel_rfl) (by kernel_rfl) (fun _ _ _ h => h) (Or.inl ⟨by rfl, ?_⟩) (by assumption) ?_
        rotate_left
        · (intro wq hSw; (try dsimp only at hSw); go_simp; (try with_reducible rfl))
        simp only [Act.put, List.getElem_toArray, List.getElem_cons_zero, List.getElem_cons_succ, List.setIfInBounds_toArray, List.set_cons_zero, List.set_cons_succ]
        refine wpAnyH_take (i := 8) (v := ?_) rfl (by kernel_rfl) (by kernel_rfl) (by kernel_rfl) (fun _ _ _ h => h) (Or.inl ⟨by rfl, ?_⟩) (by assumption) ?_
        rotate_left
        · (intro wq hSw; (try dsimp only at hSw); go_simp; (try with_reducible rfl))
        simp only [Act.put, List.getElem_toArray, List.getElem_cons_zero, List.getElem_cons_succ, List.setIfInBounds_toArray, List.set_cons_zero, List.set_cons_succ]
        refine wpAnyH_take (i := 10) (v := ?_) rfl (by kernel_rfl) (by kernel_rfl) (by kernel_rfl) (fun _ _ _ h => h) (Or.inl ⟨by rfl, ?_⟩) (by assumption) ?_
        rotate_left
        · (intro wq hSw; (try dsimp only at hSw); go_simp; (try with_reducible rfl))
        simp only [Act.put, List.getElem_toArray, List.getElem_cons_zero, List.getElem_cons_succ, List.setIfInBounds_toArray, List.set_cons_zero, List.set_cons_succ]
        refine wpAnyH_ready (rs := [0, 11]) (by kernel_rfl) (by simp) ?_
        refine AllReadyH.cons (by simp only [List.getElem?_toArray, List.getElem?_cons_succ, List.getElem?_cons_zero]; rfl) (fun K hK => ?_) ?_
        · go_simp
          refine hK.out _ _ ?_ (fun hHeld => ?_)
          · trivial
          clear hK K
          (try simp only [Act.put, List.getElem_toArray, List.getElem_cons_zero, List.getElem_cons_succ, List.setIfInBounds_toArray, List.set_cons_zero, List.set_cons_succ])
          have HK2 := HKK.out.fresh
          clear hHeld HKK
          have HKK := Lib.hid HK2
          clear HK2
          generalize wD.alloc (.cells #[] 9) = wDa at *
          refine wpAnyH_ready (rs := [4, 11]) (by kernel_rfl) (by simp) ?_
          refine AllReadyH.cons (by simp only [List.getElem?_toArray, List.getElem?_cons_succ, List.getElem?_cons_zero]; rfl) (fun K hK => ?_) ?_
          · (refine step_outS (by rfl) (.tmp 126) (.tmp 129) (by rfl) _ [] (by rfl) HKK.out.li _ ((ps.map (·.key)).take k) (by rfl) (HPX.out _ (HKK.out.rows (.slice (some ⟨gl, ol, none⟩) ps.length cl, ps.map (·.key)) (by simp)).1) (HFW.out _ (by simp only [List.length_append, List.length_take, List.length_drop, List.length_map, List.length_nil, List.length_singleton]; have := HLP.out; omega)) ?_; intro a_wDap n_wDap c_wDap wDap ho_ hchg_ hold_)
            refine hK.out _ _ ?_ (fun hHeld => ?_)
            · trivial
            clear hK K
            (try simp only [Act.put, List.getElem_toArray, List.getElem_cons_zero, List.getElem_cons_succ, List.setIfInBounds_toArray, List.set_cons_zero, List.set_cons_succ])
            have HK2 := HKK.out.app hchg_ ho_ hold_
            clear hHeld HKK hchg_ ho_ hold_
            have HKK := Lib.hid HK2
            clear HK2
            refine wpAnyH_ready (rs := [9, 11]) (by kernel_rfl) (by simp) ?_
            refine AllReadyH.cons (by simp only [List.getElem?_toArray, List.getElem?_cons_succ, List.getElem?_cons_zero]; rfl) (fun K hK => ?_) ?_
            · (refine step_outS (by rfl) (.tmp 130) (.tmp 134) (by rfl) _ ([] ++ (ps.map (·.key)).take k) (by rfl) HKK.out.li _ ((ps.map (·.key)).drop (k + 1)) (by rfl) (HSX.out _ (HKK.out.rows (.slice (some ⟨gl, ol, none⟩) ps.length cl, ps.map (·.key)) (by simp)).1) (HFW.out _ (by simp only [List.length_append, List.length_take, List.length_drop, List.length_map, List.length_nil, List.length_singleton]; have := HLP.out; omega)) ?_; intro a_wDapq n_wDapq c_wDapq wDapq ho_ hchg_ hold_)
              refine hK.out _ _ ?_ (fun hHeld => ?_)
              · trivial
              clear hK K
              (try simp only [Act.put, List.getElem_toArray, List.getElem_cons_zero, List.getElem_cons_succ, List.setIfInBounds_toArray, List.set_cons_zero, List.set_cons_succ])
              have HK2 := HKK.out.app hchg_ ho_ hold_
              clear hHeld HKK hchg_ ho_ hold_
              have HKK := Lib.hid HK2
              clear HK2
              refine wpAnyH_ready (rs := [11]) (by kernel_rfl) (by simp) ?_
              refine AllReadyH.cons (by simp only [List.getElem?_toArray, List.getElem?_cons_succ, List.getElem?_cons_zero]; rfl) (fun K hK => ?_) AllReadyH.nil
              go_simp
              refine hK.out _ _ ?_ (fun hHeld => ?_)
              · trivial
              clear hK K
              (try simp only [Act.put, List.getElem_toArray, List.getElem_cons_zero, List.getElem_cons_succ, List.setIfInBounds_toArray, List.set_cons_zero, List.set_cons_succ])
              have HK2 := HKK.out.lit key
              clear hHeld HKK
              have HKK := Lib.hid HK2
              clear HK2
              generalize wDapq.alloc (.cells #[.string key] 9) = wDapqb at *
              refine wpAnyH_done (by kernel_rfl) ?_ _
              change wpList _ _ _ _ _ _
              simp only [List.drop_succ_cons, List.drop_zero]
              generalize (if cl = k + 1 then some (⟨gl, ol, none⟩ : Addr) else some ⟨gl, ol + (k + 1), none⟩) = px at *
              go_upto_region 28 with (at_builtin; refine wpList_outS rfl (.tmp 135) (.tmp 137) rfl _ ([] ++ (ps.map (·.key)).take k ++ (ps.map (·.key)).drop (k + 1)) rfl HKK.out.li _ [key] rfl (HKK.out.rows _ (List.mem_cons_self ..)).1 (HFW.out _ (by simp only [List.length_append, List.length_take, List.length_drop, List.length_map, List.length_nil, List.length_singleton]; have := HLP.out; omega)) ?_; intro a4 n4 c4 w6 ho_ hchg_ hold_)
              have HHF : Hid (HS w w6 bh hp3 (.slice a4 n4 c4) (ps3.map (·.key)) F5) := Lib.hid (by
                have h := (HKK.out.app hchg_ ho_ hold_).done
                rw [List.nil_append] at h
                rw [HPE.out]
                exact h)
              clear HKK hchg_ ho_ hold_ HH5 HPX HSX HPE
              obtain ⟨ax4, cx4, hv, -, -⟩ := HHF.out.li.val
              cases hv
              rw [List.length_map] at *
              have HLP : Hid (ps3.length ≤ 30) := Lib.hid (by have := HLP.out; have := HL3.out; omega)
              have HKY := Lib.hid (keysOne_at HPF.out.1 (by have := HPF.out.2; omega) _ _ _ HHF.out.heap.here)
              go_upto_region 29 with (go_at_call 27; refine HKY.out.mono ?_; rintro e wk ⟨vk, rfl, hko⟩)
              obtain ⟨ak, ck, rfl, -, -⟩ := hko.val
              have HKO := Lib.hid hko
              have HHK := Lib.hid (HHF.out.still hko.chg)
              clear hko HKY HHF HPF
              rw [List.length_map] at *
              go_wp2_with fail
              go_loopw [19] (fun u19 wr2 => ∃ q : Nat, q ≤ ps3.length ∧ u19 = .int .i64 q ∧ Hid (Chg (fun _ => False) wk wr2)) (fun u19 _ => ps3.length - (intOf u19).toNat)
              case atStart => exact ⟨0, by omega, rfl, Lib.hid (Chg.refl _ _)⟩
              case round =>
                obtain ⟨q, hq, rfl, HCR⟩ := hrel
                by_cases hlt : q < ps3.length
                · have i0 : (0 : Int) ≤ (q : Int) := by omega
                  have i1 : (q : Int) < (ps3.length : Int) := by omega
                  have w64 : IntKind.i64.wrap ((q : Int) + 1) = ((q + 1 : Nat) : Int) := IntWalk.i64_in _ (by have := HLP.out; omega)
                  have HLT := Lib.hid hlt
                  obtain ⟨g1, o1, cc1, hv, c1⟩ := (HKO.out.still HCR.out).at (k := q) (by rw [List.length_map]; exact hlt)
                  rw [List.length_map] at hv
                  cases hv
                  obtain ⟨g2, o2, cc2, hv, c2⟩ := (HHK.out.still HCR.out).li.at (k := q) (by rw [List.length_map]; exact hlt)
                  rw [List.length_map] at hv
                  cases hv
                  rw [List.getElem_map] at c1 c2
                  generalize ps3[q].key = s at *
                  clear hlt
                  go_upto_region 34 with fail
                  go_quiet (fail)
                  go_wp2_with fail
                  go_roundw
                  case rel => exact ⟨q + 1, HLT.out, rfl, Lib.hid (HCR.out.trans' (Chg.drewN _ _ _))⟩
                  case measure => have := HLT.out; simp [intOf, w64]; omega
                · have hqe : q = ps3.length := by omega
                  subst hqe
                  have HCE := Lib.hid (HHK.out.heap.chg.trans' HCR.out)
                  clear hlt hq
                  go_wp2_with fail
                  go_ret
                  exact ⟨rfl, HCE.out.below (Nat.le_refl _) (fun _ x => x.elim)⟩
            refine AllReadyH.cons (by simp only [List.getElem?_toArray, List.getElem?_cons_succ, List.getElem?_cons_zero]; rfl) (fun K hK => ?_) ?_
            · go_simp
              refine hK.out _ _ ?_ (fun hHeld => ?_)
              · trivial
              clear hK K
              (try simp only [Act.put, List.getElem_toArray, List.getElem_cons_zero, List.getElem_cons_succ, List.setIfInBounds_toArray, List.set_cons_zero, List.set_cons_succ])
              have HK2 := HKK.out.lit key
              clear hHeld HKK
              have HKK := Lib.hid HK2
              clear HK2
              generalize wDap.alloc (.cells #[.string key] 9) = wDapb at *
              refine wpAnyH_ready (rs := [9]) (by kernel_rfl) (by simp) ?_
              refine AllReadyH.cons (by simp only [List.getElem?_toArray, List.getElem?_cons_succ, List.getElem?_cons_zero]; rfl) (fun K hK => ?_) AllReadyH.nil
              (refine step_outS (by rfl) (.tmp 130) (.tmp 134) (by rfl) _ ([] ++ (ps.map (·.key)).take k) (by rfl) HKK.out.li _ ((ps.map (·.key)).drop (k + 1)) (by rfl) (HSX.out _ (HKK.out.rows (.slice (some ⟨gl, ol, none⟩) ps.length cl, ps.map (·.key)) (by simp)).1) (HFW.out _ (by simp only [List.length_append, List.length_take, List.length_drop, List.length_map, List.length_nil, List.length_singleton]; have := HLP.out; omega)) ?_; intro a_wDapbq n_wDapbq c_wDapbq wDapbq ho_ hchg_ hold_)
              refine hK.out _ _ ?_ (fun hHeld => ?_)
              · trivial
              clear hK K
              (try simp only [Act.put, List.getElem_toArray, List.getElem_cons_zero, List.getElem_cons_succ, List.setIfInBounds_toArray, List.set_cons_zero, List.set_cons_succ])
              have HK2 := HKK.out.app hchg_ ho_ hold_
              clear hHeld HKK hchg_ ho_ hold_
              have HKK := Lib.hid HK2
              clear HK2
              refine wpAnyH_done (by kernel_rfl) ?_ _
              change wpList _ _ _ _ _ _
              simp only [List.drop_succ_cons, List.drop_zero]
              generalize (if cl = k + 1 then some (⟨gl, ol, none⟩ : Addr) else some ⟨gl, ol + (k + 1), none⟩) = px at *
              go_upto_region 28 with (at_builtin; refine wpList_outS rfl (.tmp 135) (.tmp 137) rfl _ ([] ++ (ps.map (·.key)).take k ++ (ps.map (·.key)).drop (k + 1)) rfl HKK.out.li _ [key] rfl (HKK.out.rows _ (List.mem_cons_self ..)).1 (HFW.out _ (by simp only [List.length_append, List.length_take, List.length_drop, List.length_map, List.length_nil, List.length_singleton]; have := HLP.out; omega)) ?_; intro a4 n4 c4 w6 ho_ hchg_ hold_)
              have HHF : Hid (HS w w6 bh hp3 (.slice a4 n4 c4) (ps3.map (·.key)) F5) := Lib.hid (by
                have h := (HKK.out.app hchg_ ho_ hold_).done
                rw [List.nil_append] at h
                rw [HPE.out]
                exact h)
              clear HKK hchg_ ho_ hold_ HH5 HPX HSX HPE
              obtain ⟨ax4, cx4, hv, -, -⟩ := HHF.out.li.val
              cases hv
              rw [List.length_map] at *
              have HLP : Hid (ps3.length ≤ 30) := Lib.hid (by have := HLP.out; have := HL3.out; omega)
              have HKY := Lib.hid (keysOne_at HPF.out.1 (by have := HPF.out.2; omega) _ _ _ HHF.out.heap.here)
              go_upto_region 29 with (go_at_call 27; refine HKY.out.mono ?_; rintro e wk ⟨vk, rfl, hko⟩)
              obtain ⟨ak, ck, rfl, -, -⟩ := hko.val
              have HKO := Lib.hid hko
              have HHK := Lib.hid (HHF.out.still hko.chg)
              clear hko HKY HHF HPF
              rw [List.length_map] at *
              go_wp2_with fail
              go_loopw [19] (fun u19 wr2 => ∃ q : Nat, q ≤ ps3.length ∧ u19 = .int .i64 q ∧ Hid (Chg (fun _ => False) wk wr2)) (fun u19 _ => ps3.length - (intOf u19).toNat)
              case atStart => exact ⟨0, by omega, rfl, Lib.hid (Chg.refl _ _)⟩
              case round =>
                obtain ⟨q, hq, rfl, HCR⟩ := hrel
                by_cases hlt : q < ps3.length
                · have i0 : (0 : Int) ≤ (q : Int) := by omega
                  have i1 : (q : Int) < (ps3.length : Int) := by omega
                  have w64 : IntKind.i64.wrap ((q : Int) + 1) = ((q + 1 : Nat) : Int) := IntWalk.i64_in _ (by have := HLP.out; omega)
                  have HLT := Lib.hid hlt
                  obtain ⟨g1, o1, cc1, hv, c1⟩ := (HKO.out.still HCR.out).at (k := q) (by rw [List.length_map]; exact hlt)
                  rw [List.length_map] at hv
                  cases hv
                  obtain ⟨g2, o2, cc2, hv, c2⟩ := (HHK.out.still HCR.out).li.at (k := q) (by rw [List.length_map]; exact hlt)
                  rw [List.length_map] at hv
                  cases hv
                  rw [List.getElem_map] at c1 c2
                  generalize ps3[q].key = s at *
                  clear hlt
                  go_upto_region 34 with fail
                  go_quiet (fail)
                  go_wp2_with fail
                  go_roundw
                  case rel => exact ⟨q + 1, HLT.out, rfl, Lib.hid (HCR.out.trans' (Chg.drewN _ _ _))⟩
                  case measure => have := HLT.out; simp [intOf, w64]; omega
                · have hqe : q = ps3.length := by omega
                  subst hqe
                  have HCE := Lib.hid (HHK.out.heap.chg.trans' HCR.out)
                  clear hlt hq
                  go_wp2_with fail
                  go_ret
                  exact ⟨rfl, HCE.out.below (Nat.le_refl _) (fun _ x => x.elim)⟩
            exact AllReadyH.nil
          refine AllReadyH.cons (by simp only [List.getElem?_toArray, List.getElem?_cons_succ, List.getElem?_cons_zero]; rfl) (fun K hK => ?_) ?_
          · go_simp
            refine hK.out _ _ ?_ (fun hHeld => ?_)
            · trivial
            clear hK K
            (try simp only [Act.put, List.getElem_toArray, List.getElem_cons_zero, List.getElem_cons_succ, List.setIfInBounds_toArray, List.set_cons_zero, List.set_cons_succ])
            have HK2 := HKK.out.lit key
            clear hHeld HKK
            have HKK := Lib.hid HK2
            clear HK2
            generalize wDa.alloc (.cells #[.string key] 9) = wDab at *
            refine wpAnyH_ready (rs := [4]) (by kernel_rfl) (by simp) ?_
            refine AllReadyH.cons (by simp only [List.getElem?_toArray, List.getElem?_cons_succ, List.getElem?_cons_zero]; rfl) (fun K hK => ?_) AllReadyH.nil
            (refine step_outS (by rfl) (.tmp 126) (.tmp 129) (by rfl) _ [] (by rfl) HKK.out.li _ ((ps.map (·.key)).take k) (by rfl) (HPX.out _ (HKK.out.rows (.slice (some ⟨gl, ol, none⟩) ps.length cl, ps.map (·.key)) (by simp)).1) (HFW.out _ (by simp only [List.length_append, List.length_take, List.length_drop, List.length_map, List.length_nil, List.length_singleton]; have := HLP.out; omega)) ?_; intro a_wDabp n_wDabp c_wDabp wDabp ho_ hchg_ hold_)
            refine hK.out _ _ ?_ (fun hHeld => ?_)
            · trivial
            clear hK K
            (try simp only [Act.put, List.getElem_toArray, List.getElem_cons_zero, List.getElem_cons_succ, List.setIfInBounds_toArray, List.set_cons_zero, List.set_cons_succ])
            have HK2 := HKK.out.app hchg_ ho_ hold_
            clear hHeld HKK hchg_ ho_ hold_
            have HKK := Lib.hid HK2
            clear HK2
            refine wpAnyH_ready (rs := [9]) (by kernel_rfl) (by simp) ?_
            refine AllReadyH.cons (by simp only [List.getElem?_toArray, List.getElem?_cons_succ, List.getElem?_cons_zero]; rfl) (fun K hK => ?_) AllReadyH.nil
            (refine step_outS (by rfl) (.tmp 130) (.tmp 134) (by rfl) _ ([] ++ (ps.map (·.key)).take k) (by rfl) HKK.out.li _ ((ps.map (·.key)).drop (k + 1)) (by rfl) (HSX.out _ (HKK.out.rows (.slice (some ⟨gl, ol, none⟩) ps.length cl, ps.map (·.key)) (by simp)).1) (HFW.out _ (by simp only [List.length_append, List.length_take, List.length_drop, List.length_map, List.length_nil, List.length_singleton]; have := HLP.out; omega)) ?_; intro a_wDabpq n_wDabpq c_wDabpq wDabpq ho_ hchg_ hold_)
            refine hK.out _ _ ?_ (fun hHeld => ?_)
            · trivial
            clear hK K
            (try simp only [Act.put, List.getElem_toArray, List.getElem_cons_zero, List.getElem_cons_succ, List.setIfInBounds_toArray, List.set_cons_zero, List.set_cons_succ])
            have HK2 := HKK.out.app hchg_ ho_ hold_
            clear hHeld HKK hchg_ ho_ hold_
            have HKK := Lib.hid HK2
            clear HK2
            refine wpAnyH_done (by kernel_rfl) ?_ _
            change wpList _ _ _ _ _ _
            simp only [List.drop_succ_cons, List.drop_zero]
            generalize (if cl = k + 1 then some (⟨gl, ol, none⟩ : Addr) else some ⟨gl, ol + (k + 1), none⟩) = px at *
            go_upto_region 28 with (at_builtin; refine wpList_outS rfl (.tmp 135) (.tmp 137) rfl _ ([] ++ (ps.map (·.key)).take k ++ (ps.map (·.key)).drop (k + 1)) rfl HKK.out.li _ [key] rfl (HKK.out.rows _ (List.mem_cons_self ..)).1 (HFW.out _ (by simp only [List.length_append, List.length_take, List.length_drop, List.length_map, List.length_nil, List.length_singleton]; have := HLP.out; omega)) ?_; intro a4 n4 c4 w6 ho_ hchg_ hold_)
            have HHF : Hid (HS w w6 bh hp3 (.slice a4 n4 c4) (ps3.map (·.key)) F5) := Lib.hid (by
              have h := (HKK.out.app hchg_ ho_ hold_).done
              rw [List.nil_append] at h
              rw [HPE.out]
              exact h)
            clear HKK hchg_ ho_ hold_ HH5 HPX HSX HPE
            obtain ⟨ax4, cx4, hv, -, -⟩ := HHF.out.li.val
            cases hv
            rw [List.length_map] at *
            have HLP : Hid (ps3.length ≤ 30) := Lib.hid (by have := HLP.out; have := HL3.out; omega)
            have HKY := Lib.hid (keysOne_at HPF.out.1 (by have := HPF.out.2; omega) _ _ _ HHF.out.heap.here)
            go_upto_region 29 with (go_at_call 27; refine HKY.out.mono ?_; rintro e wk ⟨vk, rfl, hko⟩)
            obtain ⟨ak, ck, rfl, -, -⟩ := hko.val
            have HKO := Lib.hid hko
            have HHK := Lib.hid (HHF.out.still hko.chg)
            clear hko HKY HHF HPF
            rw [List.length_map] at *
            go_wp2_with fail
            go_loopw [19] (fun u19 wr2 => ∃ q : Nat, q ≤ ps3.length ∧ u19 = .int .i64 q ∧ Hid (Chg (fun _ => False) wk wr2)) (fun u19 _ => ps3.length - (intOf u19).toNat)
            case atStart => exact ⟨0, by omega, rfl, Lib.hid (Chg.refl _ _)⟩
            case round =>
              obtain ⟨q, hq, rfl, HCR⟩ := hrel
              by_cases hlt : q < ps3.length
              · have i0 : (0 : Int) ≤ (q : Int) := by omega
                have i1 : (q : Int) < (ps3.length : Int) := by omega
                have w64 : IntKind.i64.wrap ((q : Int) + 1) = ((q + 1 : Nat) : Int) := IntWalk.i64_in _ (by have := HLP.out; omega)
                have HLT := Lib.hid hlt
                obtain ⟨g1, o1, cc1, hv, c1⟩ := (HKO.out.still HCR.out).at (k := q) (by rw [List.length_map]; exact hlt)
                rw [List.length_map] at hv
                cases hv
                obtain ⟨g2, o2, cc2, hv, c2⟩ := (HHK.out.still HCR.out).li.at (k := q) (by rw [List.length_map]; exact hlt)
                rw [List.length_map] at hv
                cases hv
                rw [List.getElem_map] at c1 c2
                generalize ps3[q].key = s at *
                clear hlt
                go_upto_region 34 with fail
                go_quiet (fail)
                go_wp2_with fail
                go_roundw
                case rel => exact ⟨q + 1, HLT.out, rfl, Lib.hid (HCR.out.trans' (Chg.drewN _ _ _))⟩
                case measure => have := HLT.out; simp [intOf, w64]; omega
              · have hqe : q = ps3.length := by omega
                subst hqe
                have HCE := Lib.hid (HHK.out.heap.chg.trans' HCR.out)
                clear hlt hq
                go_wp2_with fail
                go_ret
                exact ⟨rfl, HCE.out.below (Nat.le_refl _) (fun _ x => x.elim)⟩
          exact AllReadyH.nil
        refine AllReadyH.cons (by simp only [List.getElem?_toArray, List.getElem?_cons_succ, List.getElem?_cons_zero]; rfl) (fun K hK => ?_) ?_
        · go_simp
          refine hK.out _ _ ?_ (fun hHeld => ?_)
          · trivial
          clear hK K
          (try simp only [Act.put, List.getElem_toArray, List.getElem_cons_zero, List.getElem_cons_succ, List.setIfInBounds_toArray, List.set_cons_zero, List.set_cons_succ])
          have HK2 := HKK.out.lit key
          clear hHeld HKK
          have HKK := Lib.hid HK2
          clear HK2
          generalize wD.alloc (.cells #[.string key] 9) = wDb at *
          refine wpAnyH_ready (rs := [0]) (by kernel_rfl) (by simp) ?_
          refine AllReadyH.cons (by simp only [List.getElem?_toArray, List.getElem?_cons_succ, List.getElem?_cons_zero]; rfl) (fun K hK => ?_) AllReadyH.nil
          go_simp
          refine hK.out _ _ ?_ (fun hHeld => ?_)
          · trivial
          clear hK K
          (try simp only [Act.put, List.getElem_toArray, List.getElem_cons_zero, List.getElem_cons_succ, List.setIfInBounds_toArray, List.set_cons_zero, List.set_cons_succ])
          have HK2 := HKK.out.fresh
          clear hHeld HKK
          have HKK := Lib.hid HK2
          clear HK2
          generalize wDb.alloc (.cells #[] 9) = wDba at *
          refine wpAnyH_ready (rs := [4]) (by kernel_rfl) (by simp) ?_
          refine AllReadyH.cons (by simp only [List.getElem?_toArray, List.getElem?_cons_succ, List.getElem?_cons_zero]; rfl) (fun K hK => ?_) AllReadyH.nil
          (refine step_outS (by rfl) (.tmp 126) (.tmp 129) (by rfl) _ [] (by rfl) HKK.out.li _ ((ps.map (·.key)).take k) (by rfl) (HPX.out _ (HKK.out.rows (.slice (some ⟨gl, ol, none⟩) ps.length cl, ps.map (·.key)) (by simp)).1) (HFW.out _ (by simp only [List.length_append, List.length_take, List.length_drop, List.length_map, List.length_nil, List.length_singleton]; have := HLP.out; omega)) ?_; intro a_wDbap n_wDbap c_wDbap wDbap ho_ hchg_ hold_)
          refine hK.out _ _ ?_ (fun hHeld => ?_)
          · trivial
          clear hK K
          (try simp only [Act.put, List.getElem_toArray, List.getElem_cons_zero, List.getElem_cons_succ, List.setIfInBounds_toArray, List.set_cons_zero, List.set_cons_succ])
          have HK2 := HKK.out.app hchg_ ho_ hold_
          clear hHeld HKK hchg_ ho_ hold_
          have HKK := Lib.hid HK2
          clear HK2
          refine wpAnyH_ready (rs := [9]) (by kernel_rfl) (by simp) ?_
          refine AllReadyH.cons (by simp only [List.getElem?_toArray, List.getElem?_cons_succ, List.getElem?_cons_zero]; rfl) (fun K hK => ?_) AllReadyH.nil
          (refine step_outS (by rfl) (.tmp 130) (.tmp 134) (by rfl) _ ([] ++ (ps.map (·.key)).take k) (by rfl) HKK.out.li _ ((ps.map (·.key)).drop (k + 1)) (by rfl) (HSX.out _ (HKK.out.rows (.slice (some ⟨gl, ol, none⟩) ps.length cl, ps.map (·.key)) (by simp)).1) (HFW.out _ (by simp only [List.length_append, List.length_take, List.length_drop, List.length_map, List.length_nil, List.length_singleton]; have := HLP.out; omega)) ?_; intro a_wDbapq n_wDbapq c_wDbapq wDbapq ho_ hchg_ hold_)
          refine hK.out _ _ ?_ (fun hHeld => ?_)
          · trivial
          clear hK K
          (try simp only [Act.put, List.getElem_toArray, List.getElem_cons_zero, List.getElem_cons_succ, List.setIfInBounds_toArray, List.set_cons_zero, List.set_cons_succ])
          have HK2 := HKK.out.app hchg_ ho_ hold_
          clear hHeld HKK hchg_ ho_ hold_
          have HKK := Lib.hid HK2
          clear HK2
          refine wpAnyH_done (by kernel_rfl) ?_ _
          change wpList _ _ _ _ _ _
          simp only [List.drop_succ_cons, List.drop_zero]
          generalize (if cl = k + 1 then some (⟨gl, ol, none⟩ : Addr) else some ⟨gl, ol + (k + 1), none⟩) = px at *
          go_upto_region 28 with (at_builtin; refine wpList_outS rfl (.tmp 135) (.tmp 137) rfl _ ([] ++ (ps.map (·.key)).take k ++ (ps.map (·.key)).drop (k + 1)) rfl HKK.out.li _ [key] rfl (HKK.out.rows _ (List.mem_cons_self ..)).1 (HFW.out _ (by simp only [List.length_append, List.length_take, List.length_drop, List.length_map, List.length_nil, List.length_singleton]; have := HLP.out; omega)) ?_; intro a4 n4 c4 w6 ho_ hchg_ hold_)
          have HHF : Hid (HS w w6 bh hp3 (.slice a4 n4 c4) (ps3.map (·.key)) F5) := Lib.hid (by
            have h := (HKK.out.app hchg_ ho_ hold_).done
            rw [List.nil_append] at h
            rw [HPE.out]
            exact h)
          clear HKK hchg_ ho_ hold_ HH5 HPX HSX HPE
          obtain ⟨ax4, cx4, hv, -, -⟩ := HHF.out.li.val
          cases hv
          rw [List.length_map] at *
          have HLP : Hid (ps3.length ≤ 30) := Lib.hid (by have := HLP.out; have := HL3.out; omega)
          have HKY := Lib.hid (keysOne_at HPF.out.1 (by have := HPF.out.2; omega) _ _ _ HHF.out.heap.here)
          go_upto_region 29 with (go_at_call 27; refine HKY.out.mono ?_; rintro e wk ⟨vk, rfl, hko⟩)
          obtain ⟨ak, ck, rfl, -, -⟩ := hko.val
          have HKO := Lib.hid hko
          have HHK := Lib.hid (HHF.out.still hko.chg)
          clear hko HKY HHF HPF
          rw [List.length_map] at *
          go_wp2_with fail
          go_loopw [19] (fun u19 wr2 => ∃ q : Nat, q ≤ ps3.length ∧ u19 = .int .i64 q ∧ Hid (Chg (fun _ => False) wk wr2)) (fun u19 _ => ps3.length - (intOf u19).toNat)
          case atStart => exact ⟨0, by omega, rfl, Lib.hid (Chg.refl _ _)⟩
          case round =>
            obtain ⟨q, hq, rfl, HCR⟩ := hrel
            by_cases hlt : q < ps3.length
            · have i0 : (0 : Int) ≤ (q : Int) := by omega
              have i1 : (q : Int) < (ps3.length : Int) := by omega
              have w64 : IntKind.i64.wrap ((q : Int) + 1) = ((q + 1 : Nat) : Int) := IntWalk.i64_in _ (by have := HLP.out; omega)
              have HLT := Lib.hid hlt
              obtain ⟨g1, o1, cc1, hv, c1⟩ := (HKO.out.still HCR.out).at (k := q) (by rw [List.length_map]; exact hlt)
              rw [List.length_map] at hv
              cases hv
              obtain ⟨g2, o2, cc2, hv, c2⟩ := (HHK.out.still HCR.out).li.at (k := q) (by rw [List.length_map]; exact hlt)
              rw [List.length_map] at hv
              cases hv
              rw [List.getElem_map] at c1 c2
              generalize ps3[q].key = s at *
              clear hlt
              go_upto_region 34 with fail
              go_quiet (fail)
              go_wp2_with fail
              go_roundw
              case rel => exact ⟨q + 1, HLT.out, rfl, Lib.hid (HCR.out.trans' (Chg.drewN _ _ _))⟩
              case measure => have := HLT.out; simp [intOf, w64]; omega
            · have hqe : q = ps3.length := by omega
              subst hqe
              have HCE := Lib.hid (HHK.out.heap.chg.trans' HCR.out)
              clear hlt hq
              go_wp2_with fail
              go_ret
              exact ⟨rfl, HCE.out.below (Nat.le_refl _) (fun _ x => x.elim)⟩
        exact AllReadyH.nil
end Go.Proofs.YtjianickjahdnaaDoor
namespace Go.Proofs.YtjianickjahdnaaDoor
open Go.RowKit Go.ChangeShapes
set_option linter.unusedVariables false
set_option linter.unusedSimpArgs false

theorem starE : "*" ++ "errors.errorString" = "*errors.errorString" := by decide
theorem rowE (u : TypeId) (h : Tryd.prog.typeName? 3 u = some "*errors.errorString") : u = 146 :=
  typeName_ptr_named (nm := "errors.errorString") (by rw [starE]; kernel_rfl) (by kernel_rfl) (by decide) u (by rw [starE]; exact h)
theorem pow_datum : (Rows.laid_internal_strconv_uint64pow10 : DataW Unit) = Lib.tabData .u64 Lib.pow10Tab := by kernel_rfl
set_option maxRecDepth 100000 in
theorem tabs_of_laid {W : World} (h : laidMetH Tryd.prog Rows.heapBeginsRow.laid W) : Tabs W := by
  rw [MakeChecks.laidMetH_plain _ _ _ (by kernel_rfl)] at h
  have h1 : laidMet Tryd.prog (("internal/strconv.uint64pow10", Rows.laid_internal_strconv_uint64pow10) :: _) W := h.tail.tail
  rw [pow_datum] at h1
  obtain ⟨a1, t1, hv1, -⟩ := laid_sentinel (g := (Tryd.prog.globalNamed "strconv.ErrRange").getD 0) h1.tail.tail (by kernel_rfl) (by kernel_rfl) Tryd.underlying97 rowE Tryd.underlying146 Tryd.underlying148 rfl rfl Tryd.underlying9 (by kernel_rfl) (by kernel_rfl)
  obtain ⟨a0, t0, hv0, -⟩ := laid_sentinel (g := (Tryd.prog.globalNamed "strconv.ErrSyntax").getD 0) h1.tail.tail.tail (by kernel_rfl) (by kernel_rfl) Tryd.underlying97 rowE Tryd.underlying146 Tryd.underlying148 rfl rfl Tryd.underlying9 (by kernel_rfl) (by kernel_rfl)
  exact ⟨Lib.tabIs_of_head (g := (Tryd.prog.globalNamed "internal/strconv.uint64pow10").getD 0) (by kernel_rfl) (by kernel_rfl) Tryd.underlying138 Tryd.underlying108 (by kernel_rfl) (by kernel_rfl) h1, ⟨_, _, hv0⟩, ⟨_, _, hv1⟩⟩
end Go.Proofs.YtjianickjahdnaaDoor
namespace Go.Proofs.YtjianickjahdnaaDoor
set_option linter.unusedVariables false
open Go.ChangeShapes Go.WideShapes Go.ChangeAt Go.RowKit

theorem trod_lengths {P : Program} {H : Type} {enc : TypeId × Value → H} {W : World} : ∀ (ts : List TypeId) (vs : List Value) (ds : List (DataW H)) (ps : List MemPlace), DataW.TrodAll enc P W 0 (fun _ => true) true ts vs ds ps → ds.length = ts.length := by
  intro ts
  induction ts with
  | nil => intro vs ds ps h; cases vs <;> cases ds <;> first | rfl | exact h.elim
  | cons t ts ih => intro vs ds ps h; cases vs <;> cases ds <;> first | exact h.elim | (obtain ⟨_, _, _, h2, _⟩ := h; simp [ih _ _ _ h2])

/-- A law's contract lifted to its row, over listed variables. -/
theorem law_liftD {C : Checked} {os : Os} {f : FuncId} {fn : Func} {s : ChangeSpec} {H : Type} {enc : TypeId × Value → H} {tb : TypeId} {F : Stop.Interp} {laid : List (String × DataW Unit)} (started : os.Started)
    (own : ownKnob C.prog.godebug = none) (hl : laidOutB C.prog = true) (noInit : C.prog.inits.idxOf? f = none) (hfn : C.prog.funcs[f]? = some fn) (hts : rowed C.prog fn.params.toList = true) (hres : fn.resultTypes = #[tb]) (hbool : C.prog.underlying tb = some .bool) (hvars : s.vars = [])
    (hargs : ∀ ds : List (DataW H), ds.length = fn.params.toList.length → s.fn H ds = { results := [.lit (.bool true)], args := ds })
    (witness : ∃ (w : World) (tape : Tape) (i : Input), w.os = os ∧ (w.forCall tape i).Shaped C.prog ∧ i.vars = [] ∧ Input.okWide C.prog (w.forCall tape i) .any w.heap.size f i ∧
      (OpenSpec.ofChange s).preRow enc C.prog fn [] false laid (w.forCall tape i).memory i.args ∧ Assume.holds {} C.prog (lone (Frame.enter C.prog f i.args .normal) [] (w.forCall tape i)))
    (core : ∀ (W : World) (base : Nat) (vs : List Value) (ds : List (DataW H)) (ps : List MemPlace), (∀ (j : Nat) t v, fn.params.toList[j]? = some t → vs[j]? = some v → Value.okWide C.prog W .any base t v) →
      DataW.TrodAll enc C.prog W 0 (fun _ => true) true fn.params.toList vs ds ps → (DataW.weightsEach C.prog fn.params.toList ds).all (· ≤ reachBytes) = true → laidMetH C.prog laid W →
      Calls C.prog f vs.toArray W fun e W' => e = .returned (.bool true) ∧ Below W.heap.size W W') :
    ReturnsInHanded {} C os f .any ((OpenSpec.ofChange s).preRow enc C.prog fn [] false laid) (((OpenSpec.ofChange s).at F).post enc C.prog fn false true false false) := by
  refine returnsInHanded_of_row (C := C) (s := OpenSpec.ofChange s) own started noInit hfn witness ?_
  intro W base args ds gs before hval hW _ _ hsz hL _ _
  have hW' : DataW.Whole enc C.prog fn.params.toList s.vars false W args.toList ds gs before := hW
  obtain ⟨p, q, hA, hV, rfl, hfz, hnd⟩ := hW'
  have hV' : DataW.TrodVars enc C.prog W (fun _ => true) s.vars gs q := hV
  rw [hvars] at hV'
  obtain ⟨rfl, rfl⟩ := trodVars_none hV'
  simp only [List.append_nil] at hsz
  have hlen : ds.length = fn.params.toList.length := trod_lengths _ _ _ _ hA
  have hvt : (OpenSpec.ofChange s).bare.plain.varTypes C.prog = [] := by simp [OpenSpec.ofChange, OpenSpec.bare, DataSpec.varTypes, ChangeSpec.plain, hvars]
  rw [hvt, List.append_nil] at hsz
  have := core W base args.toList ds p (fun j t v h1 h2 => hval j t v (by simpa using h1) (by simpa using h2)) hA hsz hL
  rw [Array.toArray_toList] at this
  refine this.mono fun e W' ⟨he, hb⟩ => ⟨_, he, ?_⟩
  exact (law_post (s := s) hl hts hres hbool hvars hW (by rw [List.append_nil]; exact hargs ds hlen) hb)

/-- The same for the second row (bulk at most 1048576). -/
theorem law_liftD_upto {C : Checked} {os : Os} {f : FuncId} {fn : Func} {s : ChangeSpec} {H : Type} {enc : TypeId × Value → H} {tb : TypeId} {F : Stop.Interp} {laid : List (String × DataW Unit)} (started : os.Started)
    (own : ownKnob C.prog.godebug = none) (hl : laidOutB C.prog = true) (noInit : C.prog.inits.idxOf? f = none) (hfn : C.prog.funcs[f]? = some fn) (hts : rowed C.prog fn.params.toList = true) (hres : fn.resultTypes = #[tb]) (hbool : C.prog.underlying tb = some .bool) (hvars : s.vars = [])
    (hargs : ∀ ds : List (DataW H), ds.length = fn.params.toList.length → s.fn H ds = { results := [.lit (.bool true)], args := ds })
    (witness : ∃ (w : World) (tape : Tape) (i : Input), w.os = os ∧ (w.forCall tape i).Shaped C.prog ∧ i.vars = [] ∧ Input.okWide C.prog (w.forCall tape i) .any w.heap.size f i ∧
      (Rows.OpenSpec.upto s).preRow enc C.prog fn [] false laid (w.forCall tape i).memory i.args ∧ Assume.holds {} C.prog (lone (Frame.enter C.prog f i.args .normal) [] (w.forCall tape i)))
    (core : ∀ (W : World) (base : Nat) (vs : List Value) (ds : List (DataW H)) (ps : List MemPlace), (∀ (j : Nat) t v, fn.params.toList[j]? = some t → vs[j]? = some v → Value.okWide C.prog W .any base t v) →
      DataW.TrodAll enc C.prog W 0 (fun _ => true) true fn.params.toList vs ds ps → Rows.uptoBulkAll ds ≤ 1048576 → laidMetH C.prog laid W →
      Calls C.prog f vs.toArray W fun e W' => e = .returned (.bool true) ∧ Below W.heap.size W W') :
    ReturnsInHanded {} C os f .any ((Rows.OpenSpec.upto s).preRow enc C.prog fn [] false laid) (((Rows.OpenSpec.upto s).at F).post enc C.prog fn false true false false) := by
  refine returnsInHanded_of_row (C := C) (s := Rows.OpenSpec.upto s) own started noInit hfn witness ?_
  intro W base args ds gs before hval hW _ hk _ hL _ _
  have hW' : DataW.Whole enc C.prog fn.params.toList s.vars false W args.toList ds gs before := hW
  obtain ⟨p, q, hA, hV, rfl, hfz, hnd⟩ := hW'
  have hV' : DataW.TrodVars enc C.prog W (fun _ => true) s.vars gs q := hV
  rw [hvars] at hV'
  obtain ⟨rfl, rfl⟩ := trodVars_none hV'
  have hk2 := hk Rows.uptoSmall rfl
  simp only [List.append_nil] at hk2
  have hlen : ds.length = fn.params.toList.length := trod_lengths _ _ _ _ hA
  have := core W base args.toList ds p (fun j t v h1 h2 => hval j t v (by simpa using h1) (by simpa using h2)) hA (of_decide_eq_true hk2) hL
  rw [Array.toArray_toList] at this
  refine this.mono fun e W' ⟨he, hb⟩ => ⟨_, he, ?_⟩
  exact (law_post (s := s) hl hts hres hbool hvars hW (by rw [List.append_nil]; exact hargs ds hlen) hb)
end Go.Proofs.YtjianickjahdnaaDoor
namespace Go.Proofs.YtjianickjahdnaaDoor
open Go.RowKit Go.ChangeShapes Go.WideShapes Go.ChangeAt
open Go.ChangeMaps (open_string shut_string)
set_option linter.unusedVariables false
set_option linter.unusedSimpArgs false

theorem heapOrders_core (v : Value) (b : Int) (w : World) (hx : ∃ xs : List ByteArray, ArgRow w v (xs.map Value.string) ∧ ∀ z ∈ xs, z.size ≤ maxLen) (hb : (Lit.int .u8 b).wf = true) (HT : Tabs w) :
    Calls Tryd.prog 6 #[v, .int .u8 b] w fun e w' => e = .returned (.bool true) ∧ Below w.heap.size w w' := by
  obtain ⟨xs, h1, h2⟩ := hx
  have q1 : IntKind.u8.min = 0 := by decide
  have q2 : IntKind.u8.max = 255 := by decide
  have hw := int_of_wf hb
  rw [q1, q2] at hw
  obtain ⟨n, rfl, hn⟩ : ∃ n : Nat, b = (n : Int) ∧ n < 256 := ⟨b.toNat, by omega, by omega⟩
  by_cases hl : 30 < xs.length
  · exact heapOrders_none v xs n w h1 HT hl
  · exact heapOrders_some v xs n w h1 h2 hn HT hl
set_option maxRecDepth 100000 in
theorem heapOrders_laid (os : Os) : laidMetH Tryd.prog Rows.heapOrdersRow.laid ((World.laidAll Tryd.prog os Rows.heapOrdersRow.laid).forCall (fun _ _ => 0) ⟨#[], #[.slice none 0 0, .int .u8 0], []⟩).memory := by
  rw [MakeChecks.laidMetH_plain _ _ _ (by kernel_rfl)]
  exact laidMet_laidAll _ (by kernel_rfl) (by kernel_rfl)
set_option maxRecDepth 100000 in
theorem heapOrders_lifted (os : Os) (started : os.Started) (H : Type) (enc : TypeId × Value → H) (F : Stop.Interp) :
    ReturnsInHanded {} Tryd.checked os 6 .any ((OpenSpec.ofChange Rows.heapOrdersSpec).preRow enc Tryd.prog Tryd.f6 [] false Rows.heapOrdersRow.laid) (((OpenSpec.ofChange Rows.heapOrdersSpec).at F).post enc Tryd.prog Tryd.f6 false true false false) := by
  obtain ⟨places, hx⟩ : ∃ places, DataW.whole enc Tryd.prog ((World.laidAll Tryd.prog os Rows.heapOrdersRow.laid).forCall (fun _ _ => 0) ⟨#[], #[.slice none 0 0, .int .u8 0], []⟩).memory Tryd.f6.params.toList [] false (#[.slice none 0 0, .int .u8 0] : Array Value).toList 8 = some ([.nil, .lit (.int .u8 0)], [], places) := ⟨[], by kernel_rfl⟩
  refine law_liftD (C := Tryd.checked) (s := Rows.heapOrdersSpec) (tb := 4) started Tryd.own Tryd.laidOut (by kernel_rfl) Tryd.func6 (by kernel_rfl) rfl Tryd.underlying4 rfl ?_
    (witness_row_at (enc := enc) (C := Tryd.checked) false (World.laidAll Tryd.prog os Rows.heapOrdersRow.laid) #[.slice none 0 0, .int .u8 0] (World.laidAll_os _ _ _) (by kernel_rfl) (by kernel_rfl) (by kernel_rfl)
      (OpenSpec.preRow_of_cond 8 hx (by kernel_rfl) (fun k hk => by cases hk) (by kernel_rfl) (heapOrders_laid os))) ?_
  · intro ds h
    match ds, h with
    | [_, _], _ => rfl
  · intro W base vs ds ps hval hA hsz hL
    have hp : Tryd.f6.params.toList = [56, 5] := by rw [Tryd.params6]
    rw [hp] at hval hA hsz
    obtain ⟨v0, vs0, d0, ds0, p0, q0, rfl, rfl, rfl, h0, r0⟩ := trodAll_cons hA
    obtain ⟨v1, vs1, d1, ds1, p1, q1, rfl, rfl, rfl, h1, r1⟩ := trodAll_cons r0
    obtain ⟨rfl, rfl, rfl⟩ := trodAll_nil r1
    obtain ⟨a0, w0⟩ := open_strRow Tryd.underlying56 Tryd.underlying9 (by kernel_rfl) (hval 0 56 v0 rfl rfl) h0
    obtain ⟨a1, rfl, rfl, rfl, w1⟩ := open_int Tryd.underlying5 (hval 1 5 v1 rfl rfl) h1
    exact heapOrders_core v0 a1 W ⟨a0, w0.1, w0.2.1⟩ w1 (tabs_of_laid hL)

theorem heapOrders_said : Rows.HeapOrdersSaid :=
  OpenClaim.holds_of_cond 6 Tryd.f6 rfl rfl rfl rfl rfl rfl rfl ⟨rfl, rfl, rfl, rfl, rfl⟩ rfl rfl rfl rfl rfl (by kernel_rfl) Tryd.func6 (by kernel_rfl)
    (of_decide_eq_true (by kernel_rfl)) (by unfold Func.isWrapper; first | (rw [if_pos (by decide +kernel)]; kernel_rfl) | (rw [if_neg (by decide +kernel)]; exact ⟨rfl, rfl⟩))
    (fun os started H enc _ F => by rw [OpenClaim.pre_eq_preRow]; exact heapOrders_lifted os started H enc F)
theorem heapOrders_plain (f : FuncId) (fn : Func) (hf : Tryd.pinned.checked.prog.funcNamed "knapsack/knapsacklaw31.HeapOrders" = some f) (hfn : Tryd.pinned.checked.prog.funcs[f]? = some fn) :
    true = Tryd.pinned.checked.prog.looks [] ∧ ∀ (j : Nat) t, fn.params[j]? = some t → Tryd.pinned.checked.prog.wantsStandIn t = false := by
  obtain rfl : f = 6 := Option.some.inj ((show Tryd.prog.funcNamed "knapsack/knapsacklaw31.HeapOrders" = some 6 by kernel_rfl).symm.trans hf) |>.symm
  obtain rfl : fn = Tryd.f6 := (Option.some.inj (Tryd.func6.symm.trans hfn)).symm
  refine ⟨by kernel_rfl, fun j t ht => ?_⟩
  rw [Tryd.params6] at ht
  have hm : t ∈ [56, 5] := by simpa using Array.mem_of_getElem? ht
  have hall : ([56, 5].all fun u => !Tryd.prog.wantsStandIn u) = true := by kernel_rfl
  exact (show Tryd.prog.wantsStandIn t = false by simpa using List.all_eq_true.1 hall t hm)
/-- The tied card. -/
theorem heapOrders_holds : Rows.HeapOrdersCardSaid :=
  Claim7.holds_tied_plain_at .later [] _ _ _ _ heapOrders_said (fun _ h => by cases h) (by kernel_rfl) (fun _ h => by cases h) heapOrders_row_tie rfl ⟨rfl, rfl⟩ (by kernel_rfl) rfl heapOrders_plain (by kernel_rfl)
#print axioms heapOrders_holds
end Go.Proofs.YtjianickjahdnaaDoor
