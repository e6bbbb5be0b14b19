/-
  HeapChains: the walk.
  What the rows' listed variables give: the library's tables.
-/
import Derived.Test.YtjianickjahdnaaDoorPHeapChainsh
import Derived.Test.YtjianickjahdnaaDoorRows
import Derived.Test.YtjianickjahdnaaDoorPHeapChainsf
import Derived.MakeChecks
import Derived.Stop.LaidErr
import Derived.Lib.LaidTab
namespace Go.Proofs.YtjianickjahdnaaDoor
open Go.RowKit
set_option linter.unusedVariables false
set_option linter.unusedSimpArgs false

def pairC (p : Nat × Nat) : List Value := [.int .u8 (p.1 : Int), .int .u8 (p.2 : Int)]
def lsC (k : Nat) : List Int := (List.range k).map hC
theorem lsC_len (k : Nat) : (lsC k).length = k := by simp [lsC]
theorem lsC_get (k q : Nat) (h : q < k) {hh : q < (lsC k).length} : (lsC k)[q] = hC q := by simp [lsC]
theorem lsC_succ (k : Nat) : lsC (k + 1) = lsC k ++ [hC k] := by simp [lsC, List.range_succ]
theorem argPair {w : World} {av : Option Addr} {n cv : Nat} {xs : List (Nat × Nat)} (h : ArgRows w (.slice av n cv) 2 (xs.map pairC)) {q : Nat} (hq : q < xs.length) :
    ∃ g off, av = some ⟨g, off, none⟩ ∧ w.cell? ⟨g, off + q * 2, none⟩ = some (.int .u8 (xs[q].1 : Int)) ∧ w.cell? ⟨g, off + q * 2 + 1, none⟩ = some (.int .u8 (xs[q].2 : Int)) := by
  obtain ⟨a, cap, hv, -, -, h3⟩ := h
  cases hv
  have hne : xs.map pairC ≠ [] := by
    intro e
    have := congrArg List.length e
    simp at this
    subst this
    simp at hq
  obtain ⟨g, off, rfl, hc⟩ := h3 hne
  have hx : (xs.map pairC)[q]? = some (pairC xs[q]) := by rw [List.getElem?_map, List.getElem?_eq_getElem hq]; rfl
  exact ⟨g, off, rfl, hc q 0 _ _ hx rfl, hc q 1 _ _ hx rfl⟩
set_option maxHeartbeats 12800000 in
set_option maxRecDepth 100000 in
theorem heapChains_none (v : Value) (xs : List (Nat × Nat)) (nb : Int) (w : World) (hx : ArgRows w v 2 (xs.map pairC)) (HT : Tabs w) (hl : 40 < xs.length) :
    Calls Tryd.prog 7 #[v, .int .u8 nb] w fun e w' => e = .returned (.bool true) ∧ Below w.heap.size w w' := by
  have HAW := Lib.hid (fun W (hc : Chg (fun _ => False) w W) => awake_heap W (HT.still hc))
  obtain ⟨av, cv, rfl, -, -⟩ := hx
  rw [List.length_map]
  have l1 : (40 : Int) < (xs.length : Int) := by omega
  have HC0 := Lib.hid (Chg.refl (fun _ => False) w)
  clear hl HT
  go_enter Tryd.func7, Tryd.ntmps7
  go_wp2_with (go_at_call 9; refine (HAW.out _ HC0.out).mono ?_; rintro e w0 ⟨rfl, hc0⟩; have HC0 := Lib.hid (HC0.out.trans' hc0); clear hc0)
  go_ret
  exact ⟨rfl, HC0.out.below (Nat.le_refl _) (fun _ x => x.elim)⟩
set_option maxHeartbeats 12800000 in
set_option maxRecDepth 100000 in
theorem heapChains_some (v : Value) (xs : List (Nat × Nat)) (nb : Nat) (w : World) (hx : ArgRows w v 2 (xs.map pairC)) (hxb : ∀ p ∈ xs, p.1 < 256 ∧ p.2 < 256) (hb : nb < 256) (HT : Tabs w) (hl : ¬ 40 < xs.length) :
    Calls Tryd.prog 7 #[v, .int .u8 (nb : Int)] w fun e w' => e = .returned (.bool true) ∧ Below w.heap.size w w' := by
  have HAW := Lib.hid (awake_heap w HT)
  have HNW := Lib.hid (fun W => new_any 2 7 W)
  have HAX := Lib.hid hx
  have HXB := Lib.hid hxb
  obtain ⟨av, cv, rfl, -, -⟩ := hx
  rw [List.length_map] at *
  have l1 : ¬ (40 : Int) < (xs.length : Int) := by omega
  have HB := Lib.hid hb
  clear hl HT hxb hb
  go_enter Tryd.func7, Tryd.ntmps7
  go_upto_region 4 with (first
    | (go_at_call 9; refine HAW.out.mono ?_; rintro e w0 ⟨rfl, hc0⟩)
    | (go_at_call 10; refine (HNW.out _).mono ?_; rintro e w1 ⟨cs, F, rfl, hown, hnd, hlo, hch⟩; have hown' := hown; obtain ⟨v1, v2, v3, F1, F2, F3, rfl, o1, o2, o3, -⟩ := hown'; obtain ⟨x1, y1, p1⟩ := Rep.opened o1; obtain ⟨n1, m1, rfl, -⟩ := p1.val; obtain ⟨x2, y2, p2⟩ := Rep.opened o2; obtain ⟨n2, m2, rfl, -⟩ := p2.val; obtain ⟨x3, y3, p3⟩ := Rep.opened o3; obtain ⟨n3, m3, rfl, -⟩ := p3.val; clear o1 o2 o3 p1 p2 p3))
  have hch' := hc0.trans' hch
  have HO := Lib.hid (show Own hpR w (w1.alloc (.cells _ 30)) w1.heap.size 0 (newM 2 7) F from ⟨Here.made w1 30 _ (newM 2 7) F hown hnd, hch'.allocR _, hch'.size, fun k hk => by have := hlo k hk; have := hc0.size; omega⟩)
  clear HNW HAW hown hnd hlo hch hch' hc0
  generalize w1.alloc (.cells #[.int .i64 (newM 2 7).base, .int .i64 (newM 2 7).stride, .slice n1 (newM 2 7).slots.length m1, .slice n2 (newM 2 7).free.length m2, .int .i64 (newM 2 7).live, .int .i64 (newM 2 7).global, .int .i64 (newM 2 7).texts, .slice n3 (newM 2 7).protos.length m3] 30) = W2 at *
  generalize w1.heap.size = bh at *
  have HH0 := Lib.hid (HL.of HO.out)
  have HPH0 := Lib.hid CH.begin
  clear HO
  generalize newM 2 7 = hp0 at HH0 HPH0
  go_wp2_with fail
  go_loopw [6, 7, 8, 9] (fun u6 u7 _ _ wr => ∃ (i : Nat) (a : Option Addr) (nn c : Nat) (hp : Hp) (F : List Nat), i ≤ 8 ∧ u7 = .int .i64 i ∧ u6 = .slice a nn c ∧ Hid (CH i (fun _ => none) (fun _ => []) hp) ∧ Hid (HL w wr bh hp (.slice a nn c) (lsC i) F)) (fun _ u7 _ _ _ => 8 - (intOf u7).toNat)
  case atStart => exact ⟨0, none, 0, 0, hp0, F, by omega, rfl, rfl, HPH0, HH0⟩
  case round =>
    clear HPH0 HH0
    obtain ⟨i, al, ml, cl, hp, F, hi, rfl, rfl, HPH, HH⟩ := hrel
    by_cases hlt : i < 8
    · have i0 : (0 : Int) ≤ (i : Int) := by omega
      have i1 : (i : Int) < 8 := by omega
      have w64 : IntKind.i64.wrap ((i : Int) + 1) = ((i + 1 : Nat) : Int) := IntWalk.i64_in _ (by omega)
      have HLT := Lib.hid hlt
      have hmk0 := make_any wr bh hp F 0 HH.out.heap.here HPH.out.free (by rw [HPH.out.live, HPH.out.len]) (by rw [HPH.out.len]; omega) (by rw [HPH.out.prot]; rfl) (by omega)
      rw [HPH.out.len, HPH.out.base, HPH.out.stride, show handleM 2 7 ((12 + i : Nat) : Int) = hC i from rfl, show ((0 : Nat) : Int) = 0 from rfl] at hmk0
      have HMK := Lib.hid hmk0
      have hmid := HPH.out.mid hlt
      rw [show ((0 : Nat) : Int) = 0 from rfl] at hmid
      obtain ⟨md1, md2, ⟨md3, md4⟩, md5⟩ := hmid
      have HM5 := Lib.hid (md5 rfl rfl)
      have HLK := Lib.hid (fun W F' (H : Here hpR W bh 0 (addedM hp ⟨true, newObj 0 (hp.protos.getD 0 0)⟩) F') => link_any W bh (addedM hp ⟨true, newObj 0 (hp.protos.getD 0 0)⟩) F' (hC i) 0 (12 + i) H (hC_in (by omega)) ⟨by omega, by omega⟩ md1 md2 md3 (.inl rfl))
      rw [md4] at HLK
      clear hmk0 hi hlt md1 md2 md5
      go_upto_region 9 with (go_at_call 11; refine HMK.out.mono ?_; rintro e Wm ⟨rfl, hA⟩)
      obtain ⟨Fm, hrm⟩ := HH.out.heapS hA.post
      have HRM := Lib.hid hrm
      have hlk : Calls Tryd.prog 28 #[.pointer (some ⟨bh, 0, none⟩), .int .i64 (hC i), .int .i64 0] Wm fun e w' => e = .returned (.int .i64 0) ∧ Post hpR Wm bh 0 (putO (addedM hp ⟨true, newObj 0 (hp.protos.getD 0 0)⟩) (12 + i) (newObj 0 0)) Fm w' :=
        (HLK.out Wm Fm HRM.out.heap.here).mono (fun e w' h => by
          unfold LinkPost at h
          rw [chainM_none (slot_zero _), if_neg (by simp)] at h
          exact h)
      have HLN := Lib.hid hlk
      clear hA hrm HMK HH HPH hlk HLK md3 md4
      go_upto_region 11 with (go_at_call 28; refine HLN.out.mono ?_; rintro e Wl ⟨rfl, hpo⟩)
      obtain ⟨Fl, hrl⟩ := HRM.out.heapS hpo
      have HRL := Lib.hid hrl
      clear hpo hrl HRM HLN
      generalize putO (addedM hp ⟨true, newObj 0 (hp.protos.getD 0 0)⟩) (12 + i) (newObj 0 0) = hp' at *
      have HO5 := Lib.hid (HRL.out.li.alloc (.cells #[.int .i64 (hC i)] 3))
      go_wp2_with (at_builtin; refine wpList_out rfl (.tmp 44) (.tmp 46) rfl _ (lsC i) rfl HO5.out _ [hC i] rfl (RowAt.lit [.int .i64 (hC i)] rfl (by simp [maxLen])) (⟨by rw [lsC_len]; have := HLT.out; simp; omega⟩ : Few _) ?_; intro a2 n2 c2 wl HO6 hch2 hold2)
      have hrs := (HRL.out.still (Chg.alloc (fun _ => False) Wl (.cells #[.int .i64 (hC i)] 3))).liS hch2 HO6 hold2
      rw [← lsC_succ] at hrs
      go_roundw
      case rel => exact ⟨i + 1, a2, n2, c2, hp', Fl, by have := HLT.out; omega, rfl, rfl, HM5, Lib.hid hrs⟩
      case measure => have := HLT.out; simp [intOf, w64]; omega
    · have hi2 : i = 8 := by omega
      subst hi2
      obtain ⟨ax, cx, hv, -, -⟩ := HH.out.li.val
      rw [lsC_len] at hv
      cases hv
      clear hlt hi
      obtain ⟨wo, rfl⟩ : ∃ wo : World, wo = wr := ⟨_, rfl⟩
      have HAc : Hid (Acy (fun _ : Nat => (none : Option Nat))) := Lib.hid ⟨fun _ _ h => by simp at h, fun _ => 0, fun _ _ h => by simp at h⟩
      go_wp2_with fail
      go_loopw [10, 11, 12, 13, 14] (fun u10 _ _ _ _ wr => ∃ (q : Nat) (pr : Nat → Option Nat) (hp : Hp) (F : List Nat), q ≤ xs.length ∧ u10 = .int .i64 q ∧ Hid (CH 8 pr (fun _ => []) hp) ∧ Hid (Acy pr) ∧ Hid (HL w wr bh hp (.slice al 8 cl) (lsC 8) F)) (fun u10 _ _ _ _ _ => xs.length - (intOf u10).toNat)
      case atStart => exact ⟨0, fun _ => none, hp, F, by omega, rfl, HPH, HAc, HH⟩
      case round =>
        clear HPH HH HAc
        clear hp F
        rename World => wr
        obtain ⟨q, pr, hp, F, hq, rfl, HPH, HAC, HH⟩ := hrel
        by_cases hlt : q < xs.length
        · have q0 : (0 : Int) ≤ (q : Int) := by omega
          have q1 : (q : Int) < (xs.length : Int) := by omega
          have w64 : IntKind.i64.wrap ((q : Int) + 1) = ((q + 1 : Nat) : Int) := IntWalk.i64_in _ (by omega)
          have HLT := Lib.hid hlt
          obtain ⟨ga, oa, rfl, e1, e2⟩ := argPair (HAX.out.keep HH.out.heap.chg) hlt
          obtain ⟨hb1, hb2⟩ := HXB.out _ (List.getElem_mem hlt)
          generalize xs[q].1 = p1 at *
          generalize xs[q].2 = p2 at *
          obtain ⟨a, hae, ha⟩ : ∃ a, a = p1 % 8 ∧ a < 8 := ⟨_, rfl, Nat.mod_lt _ (by omega)⟩
          obtain ⟨b, hbe, hb⟩ : ∃ b, b = p2 % 8 ∧ b < 8 := ⟨_, rfl, Nat.mod_lt _ (by omega)⟩
          obtain ⟨gl, ol, cl2, hv, c1⟩ := HH.out.li.at (k := a) (by rw [lsC_len]; exact ha)
          rw [lsC_len] at hv
          cases hv
          obtain ⟨gl2, ol2, cl3, hv, c2⟩ := HH.out.li.at (k := b) (by rw [lsC_len]; exact hb)
          rw [lsC_len] at hv
          cases hv
          rw [lsC_get _ _ ha] at c1
          rw [lsC_get _ _ hb] at c2
          have t1 : ((p1 : Int)).tmod 8 = (a : Int) := by rw [hae, Int.tmod_eq_emod_of_nonneg (by omega)]; rfl
          have t2 : ((p2 : Int)).tmod 8 = (b : Int) := by rw [hbe, Int.tmod_eq_emod_of_nonneg (by omega)]; rfl
          have t3 : ((p1 : Int)) % 8 = (a : Int) := by rw [hae]; rfl
          have t4 : ((p2 : Int)) % 8 = (b : Int) := by rw [hbe]; rfl
          have u1 : IntKind.u8.wrap (a : Int) = (a : Int) := IntWalk.u8_in _ (by omega)
          have u2 : IntKind.u8.wrap (b : Int) = (b : Int) := IntWalk.u8_in _ (by omega)
          have a0 : (0 : Int) ≤ (a : Int) := by omega
          have a1 : (a : Int) < 8 := by omega
          have b0 : (0 : Int) ≤ (b : Int) := by omega
          have b1 : (b : Int) < 8 := by omega
          have an : a < 8 := ha
          have bn : b < 8 := hb
          have HS0 : Hid (wr.cell? ⟨ga, oa + q * 2, none⟩ = some (.int .u8 (p1 : Int)) ∧ wr.cell? ⟨ga, oa + q * 2 + 1, none⟩ = some (.int .u8 (p2 : Int)) ∧ wr.cell? ⟨gl, ol + a, none⟩ = some (.int .i64 (hC a)) ∧ wr.cell? ⟨gl, ol + b, none⟩ = some (.int .i64 (hC b))) := Lib.hid ⟨e1, e2, c1, c2⟩
          have HAB : Hid (a < 8 ∧ b < 8) := Lib.hid ⟨ha, hb⟩
          clear e1 e2 c1 c2 hb1 hb2 hae hbe hq hlt ha hb
          go_upto_region 15 with fail
          refine wp_region_held_split 19 (fun w' => w'.cell? ⟨ga, oa + q * 2, none⟩ = some (.int .u8 (p1 : Int)) ∧ w'.cell? ⟨ga, oa + q * 2 + 1, none⟩ = some (.int .u8 (p2 : Int)) ∧ w'.cell? ⟨gl, ol + a, none⟩ = some (.int .i64 (hC a)) ∧ w'.cell? ⟨gl, ol + b, none⟩ = some (.int .i64 (hC b))) (by kernel_rfl) (by kernel_rfl) ?_ (fun hHeld => ?_)
          · (first | exact HS0.out | exact HKS.out _ HCC.out)
          simp only [List.take_succ_cons, List.take_zero]
          have HKS : Hid (∀ W, Chg (fun _ => False) wr.drew W → W.cell? ⟨ga, oa + q * 2, none⟩ = some (.int .u8 (p1 : Int)) ∧ W.cell? ⟨ga, oa + q * 2 + 1, none⟩ = some (.int .u8 (p2 : Int)) ∧ W.cell? ⟨gl, ol + a, none⟩ = some (.int .i64 (hC a)) ∧ W.cell? ⟨gl, ol + b, none⟩ = some (.int .i64 (hC b))) := Lib.hid (fun W hc => ⟨hc.cell HS0.out.1, hc.cell HS0.out.2.1, hc.cell HS0.out.2.2.1, hc.cell HS0.out.2.2.2⟩)
          have HWD : Hid (Chg (fun _ => False) wr wr.drew) := Lib.hid (Chg.refl _ wr).drewR
          generalize wr.drew = wD at *
          have HCC := Lib.hid (Chg.refl (fun _ => False) wD)
          refine wpAnyH_take (i := 0) (v := ?_) rfl (by kernel_rfl) (by kernel_rfl) (by kernel_rfl) (fun _ _ _ h => h) (Or.inl ⟨by rfl, ?_⟩) (by assumption) ?_
          rotate_left
          · (intro wq hSw; (try dsimp only at hSw); go_simp; (try with_reducible rfl))
          simp only [Act.put, List.getElem_toArray, List.getElem_cons_zero, List.getElem_cons_succ, List.setIfInBounds_toArray, List.set_cons_zero, List.set_cons_succ]
          refine wpAnyH_take (i := 1) (v := ?_) rfl (by kernel_rfl) (by kernel_rfl) (by kernel_rfl) (fun _ _ _ h => h) (Or.inl ⟨by rfl, ?_⟩) (by assumption) ?_
          rotate_left
          · (intro wq hSw; (try dsimp only at hSw); go_simp; (try with_reducible rfl))
          simp only [Act.put, List.getElem_toArray, List.getElem_cons_zero, List.getElem_cons_succ, List.setIfInBounds_toArray, List.set_cons_zero, List.set_cons_succ]
          refine wpAnyH_take (i := 2) (v := ?_) rfl (by kernel_rfl) (by kernel_rfl) (by kernel_rfl) (fun _ _ _ h => h) (Or.inl ⟨by rfl, ?_⟩) (by assumption) ?_
          rotate_left
          · (intro wq hSw; (try dsimp only at hSw); go_simp; (try with_reducible rfl))
          simp only [Act.put, List.getElem_toArray, List.getElem_cons_zero, List.getElem_cons_succ, List.setIfInBounds_toArray, List.set_cons_zero, List.set_cons_succ]
          refine wpAnyH_take (i := 3) (v := ?_) rfl (by kernel_rfl) (by kernel_rfl) (by kernel_rfl) (fun _ _ _ h => h) (Or.inl ⟨by rfl, ?_⟩) (by assumption) ?_
          rotate_left
          · (intro wq hSw; (try dsimp only at hSw); go_simp; (try with_reducible rfl))
          simp only [Act.put, List.getElem_toArray, List.getElem_cons_zero, List.getElem_cons_succ, List.setIfInBounds_toArray, List.set_cons_zero, List.set_cons_succ]
          refine wpAnyH_take (i := 4) (v := ?_) rfl (by kernel_rfl) (by kernel_rfl) (by kernel_rfl) (fun _ _ _ h => h) (Or.inl ⟨by rfl, ?_⟩) (by assumption) ?_
          rotate_left
          · (intro wq hSw; (try dsimp only at hSw); go_simp; (try with_reducible rfl))
          simp only [Act.put, List.getElem_toArray, List.getElem_cons_zero, List.getElem_cons_succ, List.setIfInBounds_toArray, List.set_cons_zero, List.set_cons_succ]
          refine wpAnyH_take (i := 5) (v := ?_) rfl (by kernel_rfl) (by kernel_rfl) (by kernel_rfl) (fun _ _ _ h => h) (Or.inl ⟨by rfl, ?_⟩) (by assumption) ?_
          rotate_left
          · (intro wq hSw; (try dsimp only at hSw); go_simp; (try with_reducible rfl))
          simp only [Act.put, List.getElem_toArray, List.getElem_cons_zero, List.getElem_cons_succ, List.setIfInBounds_toArray, List.set_cons_zero, List.set_cons_succ]
          refine wpAnyH_take (i := 6) (v := ?_) rfl (by kernel_rfl) (by kernel_rfl) (by kernel_rfl) (fun _ _ _ h => h) (Or.inl ⟨by rfl, ?_⟩) (by assumption) ?_
          rotate_left
          · (intro wq hSw; (try dsimp only at hSw); go_simp; (try with_reducible rfl))
          simp only [Act.put, List.getElem_toArray, List.getElem_cons_zero, List.getElem_cons_succ, List.setIfInBounds_toArray, List.set_cons_zero, List.set_cons_succ]
          refine wpAnyH_take (i := 7) (v := ?_) rfl (by kernel_rfl) (by kernel_rfl) (by kernel_rfl) (fun _ _ _ h => h) (Or.inl ⟨by rfl, ?_⟩) (by assumption) ?_
          rotate_left
          · (intro wq hSw; (try dsimp only at hSw); go_simp; (try with_reducible rfl))
          simp only [Act.put, List.getElem_toArray, List.getElem_cons_zero, List.getElem_cons_succ, List.setIfInBounds_toArray, List.set_cons_zero, List.set_cons_succ]
          refine wpAnyH_take (i := 8) (v := ?_) rfl (by kernel_rfl) (by kernel_rfl) (by kernel_rfl) (fun _ _ _ h => h) (Or.inl ⟨by rfl, ?_⟩) (by assumption) ?_
          rotate_left
          · (intro wq hSw; (try dsimp only at hSw); go_simp; (try with_reducible rfl))
          simp only [Act.put, List.getElem_toArray, List.getElem_cons_zero, List.getElem_cons_succ, List.setIfInBounds_toArray, List.set_cons_zero, List.set_cons_succ]
          refine wpAnyH_take (i := 9) (v := ?_) rfl (by kernel_rfl) (by kernel_rfl) (by kernel_rfl) (fun _ _ _ h => h) (Or.inl ⟨by rfl, ?_⟩) (by assumption) ?_
          rotate_left
          · (intro wq hSw; (try dsimp only at hSw); go_simp; (try with_reducible rfl))
          simp only [Act.put, List.getElem_toArray, List.getElem_cons_zero, List.getElem_cons_succ, List.setIfInBounds_toArray, List.set_cons_zero, List.set_cons_succ]
          refine wpAnyH_take (i := 10) (v := ?_) rfl (by kernel_rfl) (by kernel_rfl) (by kernel_rfl) (fun _ _ _ h => h) (Or.inl ⟨by rfl, ?_⟩) (by assumption) ?_
          rotate_left
          · (intro wq hSw; (try dsimp only at hSw); go_simp; (try with_reducible rfl))
          simp only [Act.put, List.getElem_toArray, List.getElem_cons_zero, List.getElem_cons_succ, List.setIfInBounds_toArray, List.set_cons_zero, List.set_cons_succ]
          refine wpAnyH_take (i := 11) (v := ?_) rfl (by kernel_rfl) (by kernel_rfl) (by kernel_rfl) (fun _ _ _ h => h) (Or.inl ⟨by rfl, ?_⟩) (by assumption) ?_
          rotate_left
          · (intro wq hSw; (try dsimp only at hSw); go_simp; (try with_reducible rfl))
          simp only [Act.put, List.getElem_toArray, List.getElem_cons_zero, List.getElem_cons_succ, List.setIfInBounds_toArray, List.set_cons_zero, List.set_cons_succ]
          refine wpAnyH_take (i := 12) (v := ?_) rfl (by kernel_rfl) (by kernel_rfl) (by kernel_rfl) (fun _ _ _ h => h) (Or.inl ⟨by rfl, ?_⟩) (by assumption) ?_
          rotate_left
          · (intro wq hSw; (try dsimp only at hSw); go_simp; (try with_reducible rfl))
          simp only [Act.put, List.getElem_toArray, List.getElem_cons_zero, List.getElem_cons_succ, List.setIfInBounds_toArray, List.set_cons_zero, List.set_cons_succ]
          refine wpAnyH_take (i := 13) (v := ?_) rfl (by kernel_rfl) (by kernel_rfl) (by kernel_rfl) (fun _ _ _ h => h) (Or.inl ⟨by rfl, ?_⟩) (by assumption) ?_
          rotate_left
          · (intro wq hSw; (try dsimp only at hSw); go_simp; (try with_reducible rfl))
          simp only [Act.put, List.getElem_toArray, List.getElem_cons_zero, List.getElem_cons_succ, List.setIfInBounds_toArray, List.set_cons_zero, List.set_cons_succ]
          refine wpAnyH_take (i := 14) (v := ?_) rfl (by kernel_rfl) (by kernel_rfl) (by kernel_rfl) (fun _ _ _ h => h) (Or.inl ⟨by rfl, ?_⟩) (by assumption) ?_
          rotate_left
          · (intro wq hSw; (try dsimp only at hSw); go_simp; (try with_reducible rfl))
          simp only [Act.put, List.getElem_toArray, List.getElem_cons_zero, List.getElem_cons_succ, List.setIfInBounds_toArray, List.set_cons_zero, List.set_cons_succ]
          refine wpAnyH_take (i := 15) (v := ?_) rfl (by kernel_rfl) (by kernel_rfl) (by kernel_rfl) (fun _ _ _ h => h) (Or.inl ⟨by rfl, ?_⟩) (by assumption) ?_
          rotate_left
          · (intro wq hSw; (try dsimp only at hSw); go_simp; (try with_reducible rfl))
          simp only [Act.put, List.getElem_toArray, List.getElem_cons_zero, List.getElem_cons_succ, List.setIfInBounds_toArray, List.set_cons_zero, List.set_cons_succ]
          refine wpAnyH_take (i := 16) (v := ?_) rfl (by kernel_rfl) (by kernel_rfl) (by kernel_rfl) (fun _ _ _ h => h) (Or.inl ⟨by rfl, ?_⟩) (by assumption) ?_
          rotate_left
          · (intro wq hSw; (try dsimp only at hSw); go_simp; (try with_reducible rfl))
          simp only [Act.put, List.getElem_toArray, List.getElem_cons_zero, List.getElem_cons_succ, List.setIfInBounds_toArray, List.set_cons_zero, List.set_cons_succ]
          refine wpAnyH_take (i := 17) (v := ?_) rfl (by kernel_rfl) (by kernel_rfl) (by kernel_rfl) (fun _ _ _ h => h) (Or.inl ⟨by rfl, ?_⟩) (by assumption) ?_
          rotate_left
          · (intro wq hSw; (try dsimp only at hSw); go_simp; (try with_reducible rfl))
          simp only [Act.put, List.getElem_toArray, List.getElem_cons_zero, List.getElem_cons_succ, List.setIfInBounds_toArray, List.set_cons_zero, List.set_cons_succ]
          refine wpAnyH_take (i := 18) (v := ?_) rfl (by kernel_rfl) (by kernel_rfl) (by kernel_rfl) (fun _ _ _ h => h) (Or.inl ⟨by rfl, ?_⟩) (by assumption) ?_
          rotate_left
          · (intro wq hSw; (try dsimp only at hSw); go_simp; (try with_reducible rfl))
          simp only [Act.put, List.getElem_toArray, List.getElem_cons_zero, List.getElem_cons_succ, List.setIfInBounds_toArray, List.set_cons_zero, List.set_cons_succ]
          refine wpAnyH_done (by kernel_rfl) ?_ _
          change wpList _ _ _ _ _ _
          simp only [List.drop_succ_cons, List.drop_zero]
          have HHD := Lib.hid ((HH.out.still HWD.out).still HCC.out)
          clear HS0 HKS hHeld
          go_upto_region 16 with fail
          have HWI := Lib.hid (fun W (hc : Chg (fun _ => False) wD W) => within_any W bh hp F (hC b) (hC a) (HHD.out.heap.here.still hc) (hC_in (by have := HAB.out; omega)) HPH.out.pinA)
          rw [HPH.out.within HAC.out HAB.out.1 HAB.out.2] at HWI
          obtain ⟨hsl, hob⟩ := HPH.out.at HAB.out.1
          have HLK := Lib.hid (fun W (hc : Chg (fun _ => False) wD W) => link_any W bh hp F (hC a) (hC b) (12 + a) (HHD.out.heap.here.still hc) (hC_in (by have := HAB.out; omega)) (hC_in (by have := HAB.out; omega)) (HPH.out.slot (by omega) HAB.out.1) HPH.out.pinA hsl (.inr (by rw [HPH.out.slot (by omega) HAB.out.2]; rfl)))
          rw [hob] at HLK
          have hms := chN_mem HAC.out HAB.out.2 a
          by_cases hin : a ∈ chN pr b
          · have HL16 : Hid (∀ W, Chg (fun _ => False) wD W → Calls Tryd.prog 28 #[.pointer (some ⟨bh, 0, none⟩), .int .i64 (hC a), .int .i64 (hC b)] W fun e w' => e = .returned (.int .i64 16) ∧ Chg (fun _ => False) W w') := Lib.hid (fun W hc => (HLK.out W hc).mono (fun e w' h => by
              unfold LinkPost at h
              rw [HPH.out.has HAC.out HAB.out.1 HAB.out.2, if_pos (by simpa using hin)] at h
              exact h))
            by_cases hab : a = b
            · subst hab
              clear HLK hms hob hsl hin HWI
              go_upto_region 18 with (go_at_call 28; refine (HL16.out _ (Chg.refl _ _)).mono ?_; rintro e wl ⟨rfl, hcl⟩)
              have HHE := Lib.hid (HHD.out.still hcl)
              clear hcl
              go_wp2_with fail
              refine ⟨?_, ?measure⟩
              (repeat apply Exists.intro)
              refine ⟨?rel, rfl⟩
              case rel => exact ⟨q + 1, pr, hp, F, by have := HLT.out; omega, rfl, HPH, HAC, HHE⟩
              case measure => have := HLT.out; simp [intOf, w64]; omega
            · have hbh : a ∈ behind pr b := (hms.1 hin).resolve_left hab
              rw [decide_eq_true hbh] at HWI
              have zne : ¬ hC a = hC b := fun e => hab (hC_inj (by have := HAB.out; omega) (by have := HAB.out; omega) e)
              have zab : (hC a == hC b) = false := beq_false_of_ne zne
              clear HLK hms hob hsl hin hbh hab
              go_upto_region 17 with (go_at_call 17; refine (HWI.out _ (Chg.refl _ _)).mono ?_; rintro e wi ⟨rfl, hci⟩)
              go_upto_region 18 with (go_at_call 28; refine (HL16.out _ hci).mono ?_; rintro e wl ⟨rfl, hcl⟩)
              have HHE := Lib.hid ((HHD.out.still hci).still hcl)
              clear hcl hci
              go_wp2_with fail
              refine ⟨?_, ?measure⟩
              (repeat apply Exists.intro)
              refine ⟨?rel, rfl⟩
              case rel => exact ⟨q + 1, pr, hp, F, by have := HLT.out; omega, rfl, HPH, HAC, HHE⟩
              case measure => have := HLT.out; simp [intOf, w64]; omega
          · have hab : ¬ a = b := fun e => hin (hms.2 (.inl e))
            have hbh : ¬ a ∈ behind pr b := fun e => hin (hms.2 (.inr e))
            rw [decide_eq_false hbh] at HWI
            have HL0 : Hid (∀ W, Chg (fun _ => False) wD W → Calls Tryd.prog 28 #[.pointer (some ⟨bh, 0, none⟩), .int .i64 (hC a), .int .i64 (hC b)] W fun e w' => e = .returned (.int .i64 0) ∧ Post hpR W bh 0 (putO hp (12 + a) (objC (some b) [])) F w') := Lib.hid (fun W hc => (HLK.out W hc).mono (fun e w' h => by
              unfold LinkPost at h
              rw [HPH.out.has HAC.out HAB.out.1 HAB.out.2, if_neg (by simpa using hin)] at h
              exact h))
            have HPN : Hid (CH 8 (fun j => if j = a then some b else pr j) (fun _ => []) (putO hp (12 + a) (objC (some b) []))) := Lib.hid (HPH.out.put HAB.out.1 (by simp) (fun j hj => ⟨if_neg hj, rfl⟩) (by simp only [if_true]; exact hC_in (by have := HAB.out; omega)) (by simp))
            have HAN := Lib.hid (HAC.out.link HAB.out.1 HAB.out.2 hin)
            have zne : ¬ hC a = hC b := fun e => hab (hC_inj (by have := HAB.out; omega) (by have := HAB.out; omega) e)
            have zab : (hC a == hC b) = false := beq_false_of_ne zne
            clear HLK hms hob hsl hin hbh hab
            go_upto_region 17 with (go_at_call 17; refine (HWI.out _ (Chg.refl _ _)).mono ?_; rintro e wi ⟨rfl, hci⟩)
            go_upto_region 18 with (go_at_call 28; refine (HL0.out _ hci).mono ?_; rintro e wl ⟨rfl, hpl⟩)
            obtain ⟨Fl, hrl⟩ := (HHD.out.still hci).heapS hpl
            have HHE := Lib.hid hrl
            clear hpl hci hrl
            go_wp2_with fail
            refine ⟨?_, ?measure⟩
            (repeat apply Exists.intro)
            refine ⟨?rel, rfl⟩
            case rel => exact ⟨q + 1, _, _, Fl, by have := HLT.out; omega, rfl, HPN, HAN, HHE⟩
            case measure => have := HLT.out; simp [intOf, w64]; omega
        · have hqe : q = xs.length := by omega
          subst hqe
          clear hlt hq
          obtain ⟨r, hre, hr⟩ : ∃ r, r = nb % 8 ∧ r < 8 := ⟨_, rfl, Nat.mod_lt _ (by omega)⟩
          obtain ⟨gl, ol, cl2, hv, c1⟩ := HH.out.li.at (k := r) (by rw [lsC_len]; exact hr)
          rw [lsC_len] at hv
          cases hv
          rw [lsC_get _ _ hr] at c1
          have hnb := HB.out
          have t1 : ((nb : Int)).tmod 8 = (r : Int) := by rw [hre, Int.tmod_eq_emod_of_nonneg (by omega)]; rfl
          have t3 : ((nb : Int)) % 8 = (r : Int) := by rw [hre]; rfl
          have u1 : IntKind.u8.wrap (r : Int) = (r : Int) := IntWalk.u8_in _ (by omega)
          have r0 : (0 : Int) ≤ (r : Int) := by omega
          have r1 : (r : Int) < 8 := by omega
          have HR := Lib.hid hr
          have HOF := Lib.hid (fun (h : Int) (W : World) => vofA h W)
          obtain ⟨hsl, hob⟩ := HPH.out.at hr
          have hpu := fun W (hc : Chg (fun _ => False) wr W) => put_new W bh hp F (hC r) (12 + r) keyP ⟨3, 3, ⟨#[]⟩, 0⟩ ⟨3, 3, ⟨#[]⟩, 0⟩ (HH.out.heap.here.still hc) (hC_in (by omega)) (HPH.out.slot (by omega) hr) hsl (by rw [hob]; show (0 : Int) ≠ 1; omega) (fun W _ => normal_int 3 W) (by rw [hob]; rfl) (by rw [hob]; show 0 < 10000; omega)
          rw [hob] at hpu
          have HPU := Lib.hid hpu
          have HPQ : Hid (CH 8 pr (prC r) (putO hp (12 + r) { objC (pr r) [] with props := (objC (pr r) []).props ++ [⟨keyP, 3, 3, ⟨#[]⟩, 0⟩] })) := Lib.hid (HPH.out.put hr (by rw [show prC r r = [⟨keyP, 3, 3, ⟨#[]⟩, 0⟩] from if_pos rfl]; rfl) (fun j hj => ⟨rfl, if_neg hj⟩) (by have := HPH.out.pin (12 + r) (by omega); rw [HPH.out.obj r hr] at this; exact this) (by rw [show prC r r = [⟨keyP, 3, 3, ⟨#[]⟩, 0⟩] from if_pos rfl]; show 1 ≤ 10; omega))
          unfold keyP at HPU HPQ
          clear hpu hsl hob hre hr hnb
          go_upto_region 21 with fail
          go_upto_region 22 with (first
            | (go_at_call 25; refine (HOF.out _ _).mono ?_; rintro e wf ⟨rfl, hcf⟩)
            | (go_at_call 24; refine (HPU.out _ hcf).mono ?_; rintro e Wp ⟨rfl, hpp⟩))
          obtain ⟨Fp, hrp⟩ := (HH.out.still hcf).heapS hpp
          have HHP := Lib.hid hrp
          clear hpp hrp hcf HPU HPH HH c1 t1 t3 u1
          generalize putO hp (12 + r) _ = hpP at *
          go_wp2_with fail
          go_loopw [16, 17, 18] (fun u16 _ _ wr => ∃ i : Nat, i ≤ 8 ∧ u16 = .int .i64 i ∧ Hid (Chg (fun _ => False) Wp wr)) (fun u16 _ _ _ => 8 - (intOf u16).toNat)
          case atStart => exact ⟨0, by omega, rfl, Lib.hid (Chg.refl _ _)⟩
          case round =>
            obtain ⟨i, hi, rfl, HCR⟩ := hrel
            by_cases hlt : i < 8
            · have i0 : (0 : Int) ≤ (i : Int) := by omega
              have i1 : (i : Int) < 8 := by omega
              have iN : i < 8 := hlt
              have w64 : IntKind.i64.wrap ((i : Int) + 1) = ((i + 1 : Nat) : Int) := IntWalk.i64_in _ (by omega)
              have HLT := Lib.hid hlt
              obtain ⟨gl3, ol3, cl4, hv, c1⟩ := (HHP.out).li.at (k := i) (by rw [lsC_len]; exact hlt)
              rw [lsC_len] at hv
              cases hv
              rw [lsC_get _ _ hlt] at c1
              have HCI := Lib.hid c1
              have c2 := HCR.out.cell c1
              have hlu := lookup_any wr bh hpP Fp (hC i) keyP (HHP.out.heap.here.still HCR.out) (hC_in (by omega)) HPQ.out.pinA HPQ.out.plain (fun l j h => findP_lt h)
              rw [HPQ.out.look HAC.out HR.out hlt] at hlu
              have HW1 := Lib.hid (fun W (hc : Chg (fun _ => False) Wp W) => within_any W bh hpP Fp (hC i) (hC i) (HHP.out.heap.here.still hc) (hC_in (by have := HLT.out; omega)) HPQ.out.pinA)
              rw [HPQ.out.within HAC.out hlt hlt, decide_eq_false (behind_self HAC.out hlt)] at HW1
              have HW2 := Lib.hid (fun W (hc : Chg (fun _ => False) Wp W) => within_any W bh hpP Fp (hC i) (hC r) (HHP.out.heap.here.still hc) (hC_in (by have := HLT.out; omega)) HPQ.out.pinA)
              rw [HPQ.out.within HAC.out HR.out hlt] at HW2
              have hms := chN_mem HAC.out hlt r
              by_cases hin : r ∈ chN pr i
              · rw [if_pos hin] at hlu
                have HLU := Lib.hid (show Calls Tryd.prog 29 #[.pointer (some ⟨bh, 0, none⟩), .int .i64 (hC i), .string ⟨#[112]⟩] wr fun e w' => e = .returned (.tuple #[.agg #[.int .i64 3, .int .i64 3, .string ⟨#[]⟩, .int .i64 0], .bool true]) ∧ Chg (fun _ => False) wr w' from hlu)
                by_cases hir : r = i
                · have hir2 : i = r := hir.symm
                  clear hir
                  subst hir2
                  clear hlu c1 hms hin hi hlt HW2
                  go_upto_region 26 with (go_at_call 29; refine HLU.out.mono ?_; rintro e wl ⟨rfl, hcl⟩)
                  have hb17 := alloc_block wl (.cells #[.int .i64 3, .int .i64 3, .string ⟨#[]⟩, .int .i64 0] 36)
                  have HC8 := Lib.hid (HCR.out.trans' (hcl.trans' (Chg.alloc (fun _ => False) wl (.cells #[.int .i64 3, .int .i64 3, .string ⟨#[]⟩, .int .i64 0] 36))))
                  generalize wl.alloc (.cells #[.int .i64 3, .int .i64 3, .string ⟨#[]⟩, .int .i64 0] 36) = w8 at *
                  generalize wl.heap.size = b17 at *
                  have m0 := cell_of_block (i := 0) hb17 rfl
                  have m1 := cell_of_block (i := 1) hb17 rfl
                  have m2 := cell_of_block (i := 2) hb17 rfl
                  have m3 := cell_of_block (i := 3) hb17 rfl
                  simp only [List.getElem_toArray, List.getElem_cons_zero, List.getElem_cons_succ] at m0 m1 m2 m3
                  have HS0 : Hid (w8.cell? ⟨gl, ol + i, none⟩ = some (.int .i64 (hC i)) ∧ w8.cell? ⟨b17, 0, none⟩ = some (.int .i64 3) ∧ w8.cell? ⟨b17, 1, none⟩ = some (.int .i64 3) ∧ w8.cell? ⟨b17, 2, none⟩ = some (.string ⟨#[]⟩) ∧ w8.cell? ⟨b17, 3, none⟩ = some (.int .i64 0)) := Lib.hid ⟨HC8.out.cell HCI.out, m0, m1, m2, m3⟩
                  clear m0 m1 m2 m3 hb17 hcl HLU HCR
                  refine wp_region_held_split 34 (fun w' => w'.cell? ⟨gl, ol + i, none⟩ = some (.int .i64 (hC i)) ∧ w'.cell? ⟨b17, 0, none⟩ = some (.int .i64 3) ∧ w'.cell? ⟨b17, 1, none⟩ = some (.int .i64 3) ∧ w'.cell? ⟨b17, 2, none⟩ = some (.string ⟨#[]⟩) ∧ w'.cell? ⟨b17, 3, none⟩ = some (.int .i64 0)) (by kernel_rfl) (by kernel_rfl) ?_ (fun hHeld => ?_)
                  · (first | exact HS0.out | exact HKS.out _ HCC.out)
                  simp only [List.take_succ_cons, List.take_zero]
                  have HKS : Hid (∀ W, Chg (fun _ => False) w8.drew W → W.cell? ⟨gl, ol + i, none⟩ = some (.int .i64 (hC i)) ∧ W.cell? ⟨b17, 0, none⟩ = some (.int .i64 3) ∧ W.cell? ⟨b17, 1, none⟩ = some (.int .i64 3) ∧ W.cell? ⟨b17, 2, none⟩ = some (.string ⟨#[]⟩) ∧ W.cell? ⟨b17, 3, none⟩ = some (.int .i64 0)) := Lib.hid (fun W hc => ⟨hc.cell HS0.out.1, hc.cell HS0.out.2.1, hc.cell HS0.out.2.2.1, hc.cell HS0.out.2.2.2.1, hc.cell HS0.out.2.2.2.2⟩)
                  have HWD : Hid (Chg (fun _ => False) w8 w8.drew) := Lib.hid (Chg.refl _ w8).drewR
                  have HWQ : Hid (∀ W, Chg (fun _ => False) w8.drew W → Chg (fun _ => False) Wp W) := Lib.hid (fun W hc => (HC8.out.trans' (Chg.refl _ w8).drewR).trans' hc)
                  generalize w8.drew = wD at *
                  have HCC := Lib.hid (Chg.refl (fun _ => False) wD)
                  refine wpAnyH_take (i := 0) (v := ?_) rfl (by kernel_rfl) (by kernel_rfl) (by kernel_rfl) (fun _ _ _ h => h) (Or.inl ⟨by rfl, ?_⟩) (by assumption) ?_
                  rotate_left
                  · (intro wq hSw; (try dsimp only at hSw); go_simp; (try with_reducible rfl))
                  simp only [Act.put, List.getElem_toArray, List.getElem_cons_zero, List.getElem_cons_succ, List.setIfInBounds_toArray, List.set_cons_zero, List.set_cons_succ]
                  refine wpAnyH_take (i := 1) (v := ?_) rfl (by kernel_rfl) (by kernel_rfl) (by kernel_rfl) (fun _ _ _ h => h) (Or.inl ⟨by rfl, ?_⟩) (by assumption) ?_
                  rotate_left
                  · (intro wq hSw; (try dsimp only at hSw); go_simp; (try with_reducible rfl))
                  simp only [Act.put, List.getElem_toArray, List.getElem_cons_zero, List.getElem_cons_succ, List.setIfInBounds_toArray, List.set_cons_zero, List.set_cons_succ]
                  refine wpAnyH_take (i := 2) (v := ?_) rfl (by kernel_rfl) (by kernel_rfl) (by kernel_rfl) (fun _ _ _ h => h) (Or.inl ⟨by rfl, ?_⟩) (by assumption) ?_
                  rotate_left
                  · (intro wq hSw; (try dsimp only at hSw); go_simp; (try with_reducible rfl))
                  simp only [Act.put, List.getElem_toArray, List.getElem_cons_zero, List.getElem_cons_succ, List.setIfInBounds_toArray, List.set_cons_zero, List.set_cons_succ]
                  refine wpAnyH_take (i := 3) (v := ?_) rfl (by kernel_rfl) (by kernel_rfl) (by kernel_rfl) (fun _ _ _ h => h) (Or.inl ⟨by rfl, ?_⟩) (by assumption) ?_
                  rotate_left
                  · (intro wq hSw; (try dsimp only at hSw); go_simp; (try with_reducible rfl))
                  simp only [Act.put, List.getElem_toArray, List.getElem_cons_zero, List.getElem_cons_succ, List.setIfInBounds_toArray, List.set_cons_zero, List.set_cons_succ]
                  refine wpAnyH_take (i := 4) (v := ?_) rfl (by kernel_rfl) (by kernel_rfl) (by kernel_rfl) (fun _ _ _ h => h) (Or.inl ⟨by rfl, ?_⟩) (by assumption) ?_
                  rotate_left
                  · (intro wq hSw; (try dsimp only at hSw); go_simp; (try with_reducible rfl))
                  simp only [Act.put, List.getElem_toArray, List.getElem_cons_zero, List.getElem_cons_succ, List.setIfInBounds_toArray, List.set_cons_zero, List.set_cons_succ]
                  refine wpAnyH_take (i := 5) (v := ?_) rfl (by kernel_rfl) (by kernel_rfl) (by kernel_rfl) (fun _ _ _ h => h) (Or.inl ⟨by rfl, ?_⟩) (by assumption) ?_
                  rotate_left
                  · (intro wq hSw; (try dsimp only at hSw); go_simp; (try with_reducible rfl))
                  simp only [Act.put, List.getElem_toArray, List.getElem_cons_zero, List.getElem_cons_succ, List.setIfInBounds_toArray, List.set_cons_zero, List.set_cons_succ]
                  refine wpAnyH_take (i := 6) (v := ?_) rfl (by kernel_rfl) (by kernel_rfl) (by kernel_rfl) (fun _ _ _ h => h) (Or.inl ⟨by rfl, ?_⟩) (by assumption) ?_
                  rotate_left
                  · (intro wq hSw; (try dsimp only at hSw); go_simp; (try with_reducible rfl))
                  simp only [Act.put, List.getElem_toArray, List.getElem_cons_zero, List.getElem_cons_succ, List.setIfInBounds_toArray, List.set_cons_zero, List.set_cons_succ]
                  refine wpAnyH_take (i := 7) (v := ?_) rfl (by kernel_rfl) (by kernel_rfl) (by kernel_rfl) (fun _ _ _ h => h) (Or.inl ⟨by rfl, ?_⟩) (by assumption) ?_
                  rotate_left
                  · (intro wq hSw; (try dsimp only at hSw); go_simp; (try with_reducible rfl))
                  simp only [Act.put, List.getElem_toArray, List.getElem_cons_zero, List.getElem_cons_succ, List.setIfInBounds_toArray, List.set_cons_zero, List.set_cons_succ]
                  refine wpAnyH_ready (rs := [8]) (by kernel_rfl) (by simp) ?_
                  refine AllReadyH.cons (by simp only [List.getElem?_toArray, List.getElem?_cons_succ, List.getElem?_cons_zero]; rfl) (fun K hK => ?_) AllReadyH.nil
                  (go_simp; go_at_call 17; refine (HW1.out _ (HWQ.out _ HCC.out)).mono ?_; rintro _ wd ⟨rfl, hcd⟩; have HCC := Lib.hid (HCC.out.trans' hcd); clear hcd; go_simp)
                  refine hK.out _ _ ?_ (fun hHeld => ?_)
                  · (first | exact HS0.out | exact HKS.out _ HCC.out)
                  clear hK K
                  (try simp only [Act.put, List.getElem_toArray, List.getElem_cons_zero, List.getElem_cons_succ, List.setIfInBounds_toArray, List.set_cons_zero, List.set_cons_succ])
                  refine wpAnyH_take (i := 9) (v := ?_) rfl (by kernel_rfl) (by kernel_rfl) (by kernel_rfl) (fun _ _ _ h => h) (Or.inl ⟨by rfl, ?_⟩) (by assumption) ?_
                  rotate_left
                  · (intro wq hSw; (try dsimp only at hSw); go_simp; (try with_reducible rfl))
                  simp only [Act.put, List.getElem_toArray, List.getElem_cons_zero, List.getElem_cons_succ, List.setIfInBounds_toArray, List.set_cons_zero, List.set_cons_succ]
                  first
                  | (refine wpAnyH_take (i := 10) (v := undef) rfl (by kernel_rfl) (by kernel_rfl) (by kernel_rfl) (fun _ _ _ h => h) (Or.inr ⟨by rfl, rfl⟩) (by assumption) ?_)
                  | (refine wpAnyH_take (i := 10) (v := ?_) rfl (by kernel_rfl) (by kernel_rfl) (by kernel_rfl) (fun _ _ _ h => h) (Or.inl ⟨by rfl, ?_⟩) (by assumption) ?_; rotate_left; (focus (intro wq hSw; (try dsimp only at hSw); go_simp; (try with_reducible rfl))))
                  simp only [Act.put, List.getElem_toArray, List.getElem_cons_zero, List.getElem_cons_succ, List.setIfInBounds_toArray, List.set_cons_zero, List.set_cons_succ]
                  first
                  | (refine wpAnyH_take (i := 11) (v := undef) rfl (by kernel_rfl) (by kernel_rfl) (by kernel_rfl) (fun _ _ _ h => h) (Or.inr ⟨by rfl, rfl⟩) (by assumption) ?_)
                  | (refine wpAnyH_take (i := 11) (v := ?_) rfl (by kernel_rfl) (by kernel_rfl) (by kernel_rfl) (fun _ _ _ h => h) (Or.inl ⟨by rfl, ?_⟩) (by assumption) ?_; rotate_left; (focus (intro wq hSw; (try dsimp only at hSw); go_simp; (try with_reducible rfl))))
                  simp only [Act.put, List.getElem_toArray, List.getElem_cons_zero, List.getElem_cons_succ, List.setIfInBounds_toArray, List.set_cons_zero, List.set_cons_succ]
                  first
                  | (refine wpAnyH_take (i := 12) (v := undef) rfl (by kernel_rfl) (by kernel_rfl) (by kernel_rfl) (fun _ _ _ h => h) (Or.inr ⟨by rfl, rfl⟩) (by assumption) ?_)
                  | (refine wpAnyH_take (i := 12) (v := ?_) rfl (by kernel_rfl) (by kernel_rfl) (by kernel_rfl) (fun _ _ _ h => h) (Or.inl ⟨by rfl, ?_⟩) (by assumption) ?_; rotate_left; (focus (intro wq hSw; (try dsimp only at hSw); go_simp; (try with_reducible rfl))))
                  simp only [Act.put, List.getElem_toArray, List.getElem_cons_zero, List.getElem_cons_succ, List.setIfInBounds_toArray, List.set_cons_zero, List.set_cons_succ]
                  first
                  | (refine wpAnyH_take (i := 13) (v := undef) rfl (by kernel_rfl) (by kernel_rfl) (by kernel_rfl) (fun _ _ _ h => h) (Or.inr ⟨by rfl, rfl⟩) (by assumption) ?_)
                  | (refine wpAnyH_take (i := 13) (v := ?_) rfl (by kernel_rfl) (by kernel_rfl) (by kernel_rfl) (fun _ _ _ h => h) (Or.inl ⟨by rfl, ?_⟩) (by assumption) ?_; rotate_left; (focus (intro wq hSw; (try dsimp only at hSw); go_simp; (try with_reducible rfl))))
                  simp only [Act.put, List.getElem_toArray, List.getElem_cons_zero, List.getElem_cons_succ, List.setIfInBounds_toArray, List.set_cons_zero, List.set_cons_succ]
                  first
                  | (refine wpAnyH_take (i := 14) (v := undef) rfl (by kernel_rfl) (by kernel_rfl) (by kernel_rfl) (fun _ _ _ h => h) (Or.inr ⟨by rfl, rfl⟩) (by assumption) ?_)
                  | (refine wpAnyH_take (i := 14) (v := ?_) rfl (by kernel_rfl) (by kernel_rfl) (by kernel_rfl) (fun _ _ _ h => h) (Or.inl ⟨by rfl, ?_⟩) (by assumption) ?_; rotate_left; (focus (intro wq hSw; (try dsimp only at hSw); go_simp; (try with_reducible rfl))))
                  simp only [Act.put, List.getElem_toArray, List.getElem_cons_zero, List.getElem_cons_succ, List.setIfInBounds_toArray, List.set_cons_zero, List.set_cons_succ]
                  first
                  | (refine wpAnyH_take (i := 15) (v := undef) rfl (by kernel_rfl) (by kernel_rfl) (by kernel_rfl) (fun _ _ _ h => h) (Or.inr ⟨by rfl, rfl⟩) (by assumption) ?_)
                  | (refine wpAnyH_take (i := 15) (v := ?_) rfl (by kernel_rfl) (by kernel_rfl) (by kernel_rfl) (fun _ _ _ h => h) (Or.inl ⟨by rfl, ?_⟩) (by assumption) ?_; rotate_left; (focus (intro wq hSw; (try dsimp only at hSw); go_simp; (try with_reducible rfl))))
                  simp only [Act.put, List.getElem_toArray, List.getElem_cons_zero, List.getElem_cons_succ, List.setIfInBounds_toArray, List.set_cons_zero, List.set_cons_succ]
                  first
                  | (refine wpAnyH_take (i := 16) (v := undef) rfl (by kernel_rfl) (by kernel_rfl) (by kernel_rfl) (fun _ _ _ h => h) (Or.inr ⟨by rfl, rfl⟩) (by assumption) ?_)
                  | (refine wpAnyH_take (i := 16) (v := ?_) rfl (by kernel_rfl) (by kernel_rfl) (by kernel_rfl) (fun _ _ _ h => h) (Or.inl ⟨by rfl, ?_⟩) (by assumption) ?_; rotate_left; (focus (intro wq hSw; (try dsimp only at hSw); go_simp; (try with_reducible rfl))))
                  simp only [Act.put, List.getElem_toArray, List.getElem_cons_zero, List.getElem_cons_succ, List.setIfInBounds_toArray, List.set_cons_zero, List.set_cons_succ]
                  first
                  | (refine wpAnyH_take (i := 17) (v := undef) rfl (by kernel_rfl) (by kernel_rfl) (by kernel_rfl) (fun _ _ _ h => h) (Or.inr ⟨by rfl, rfl⟩) (by assumption) ?_)
                  | (refine wpAnyH_take (i := 17) (v := ?_) rfl (by kernel_rfl) (by kernel_rfl) (by kernel_rfl) (fun _ _ _ h => h) (Or.inl ⟨by rfl, ?_⟩) (by assumption) ?_; rotate_left; (focus (intro wq hSw; (try dsimp only at hSw); go_simp; (try with_reducible rfl))))
                  simp only [Act.put, List.getElem_toArray, List.getElem_cons_zero, List.getElem_cons_succ, List.setIfInBounds_toArray, List.set_cons_zero, List.set_cons_succ]
                  first
                  | (refine wpAnyH_take (i := 18) (v := undef) rfl (by kernel_rfl) (by kernel_rfl) (by kernel_rfl) (fun _ _ _ h => h) (Or.inr ⟨by rfl, rfl⟩) (by assumption) ?_)
                  | (refine wpAnyH_take (i := 18) (v := ?_) rfl (by kernel_rfl) (by kernel_rfl) (by kernel_rfl) (fun _ _ _ h => h) (Or.inl ⟨by rfl, ?_⟩) (by assumption) ?_; rotate_left; (focus (intro wq hSw; (try dsimp only at hSw); go_simp; (try with_reducible rfl))))
                  simp only [Act.put, List.getElem_toArray, List.getElem_cons_zero, List.getElem_cons_succ, List.setIfInBounds_toArray, List.set_cons_zero, List.set_cons_succ]
                  first
                  | (refine wpAnyH_take (i := 19) (v := undef) rfl (by kernel_rfl) (by kernel_rfl) (by kernel_rfl) (fun _ _ _ h => h) (Or.inr ⟨by rfl, rfl⟩) (by assumption) ?_)
                  | (refine wpAnyH_take (i := 19) (v := ?_) rfl (by kernel_rfl) (by kernel_rfl) (by kernel_rfl) (fun _ _ _ h => h) (Or.inl ⟨by rfl, ?_⟩) (by assumption) ?_; rotate_left; (focus (intro wq hSw; (try dsimp only at hSw); go_simp; (try with_reducible rfl))))
                  simp only [Act.put, List.getElem_toArray, List.getElem_cons_zero, List.getElem_cons_succ, List.setIfInBounds_toArray, List.set_cons_zero, List.set_cons_succ]
                  first
                  | (refine wpAnyH_take (i := 20) (v := undef) rfl (by kernel_rfl) (by kernel_rfl) (by kernel_rfl) (fun _ _ _ h => h) (Or.inr ⟨by rfl, rfl⟩) (by assumption) ?_)
                  | (refine wpAnyH_take (i := 20) (v := ?_) rfl (by kernel_rfl) (by kernel_rfl) (by kernel_rfl) (fun _ _ _ h => h) (Or.inl ⟨by rfl, ?_⟩) (by assumption) ?_; rotate_left; (focus (intro wq hSw; (try dsimp only at hSw); go_simp; (try with_reducible rfl))))
                  simp only [Act.put, List.getElem_toArray, List.getElem_cons_zero, List.getElem_cons_succ, List.setIfInBounds_toArray, List.set_cons_zero, List.set_cons_succ]
                  first
                  | (refine wpAnyH_take (i := 21) (v := undef) rfl (by kernel_rfl) (by kernel_rfl) (by kernel_rfl) (fun _ _ _ h => h) (Or.inr ⟨by rfl, rfl⟩) (by assumption) ?_)
                  | (refine wpAnyH_take (i := 21) (v := ?_) rfl (by kernel_rfl) (by kernel_rfl) (by kernel_rfl) (fun _ _ _ h => h) (Or.inl ⟨by rfl, ?_⟩) (by assumption) ?_; rotate_left; (focus (intro wq hSw; (try dsimp only at hSw); go_simp; (try with_reducible rfl))))
                  simp only [Act.put, List.getElem_toArray, List.getElem_cons_zero, List.getElem_cons_succ, List.setIfInBounds_toArray, List.set_cons_zero, List.set_cons_succ]
                  first
                  | (refine wpAnyH_take (i := 22) (v := undef) rfl (by kernel_rfl) (by kernel_rfl) (by kernel_rfl) (fun _ _ _ h => h) (Or.inr ⟨by rfl, rfl⟩) (by assumption) ?_)
                  | (refine wpAnyH_take (i := 22) (v := ?_) rfl (by kernel_rfl) (by kernel_rfl) (by kernel_rfl) (fun _ _ _ h => h) (Or.inl ⟨by rfl, ?_⟩) (by assumption) ?_; rotate_left; (focus (intro wq hSw; (try dsimp only at hSw); go_simp; (try with_reducible rfl))))
                  simp only [Act.put, List.getElem_toArray, List.getElem_cons_zero, List.getElem_cons_succ, List.setIfInBounds_toArray, List.set_cons_zero, List.set_cons_succ]
                  refine wpAnyH_ready (rs := [23]) (by kernel_rfl) (by simp) ?_
                  refine AllReadyH.cons (by simp only [List.getElem?_toArray, List.getElem?_cons_succ, List.getElem?_cons_zero]; rfl) (fun K hK => ?_) AllReadyH.nil
                  go_simp
                  refine hK.out _ _ ?_ (fun hHeld => ?_)
                  · (first | exact HS0.out | exact HKS.out _ HCC.out)
                  clear hK K
                  (try simp only [Act.put, List.getElem_toArray, List.getElem_cons_zero, List.getElem_cons_succ, List.setIfInBounds_toArray, List.set_cons_zero, List.set_cons_succ])
                  first
                  | (refine wpAnyH_take (i := 24) (v := undef) rfl (by kernel_rfl) (by kernel_rfl) (by kernel_rfl) (fun _ _ _ h => h) (Or.inr ⟨by rfl, rfl⟩) (by assumption) ?_)
                  | (refine wpAnyH_take (i := 24) (v := ?_) rfl (by kernel_rfl) (by kernel_rfl) (by kernel_rfl) (fun _ _ _ h => h) (Or.inl ⟨by rfl, ?_⟩) (by assumption) ?_; rotate_left; (focus (intro wq hSw; (try dsimp only at hSw); go_simp; (try with_reducible rfl))))
                  simp only [Act.put, List.getElem_toArray, List.getElem_cons_zero, List.getElem_cons_succ, List.setIfInBounds_toArray, List.set_cons_zero, List.set_cons_succ]
                  first
                  | (refine wpAnyH_take (i := 25) (v := undef) rfl (by kernel_rfl) (by kernel_rfl) (by kernel_rfl) (fun _ _ _ h => h) (Or.inr ⟨by rfl, rfl⟩) (by assumption) ?_)
                  | (refine wpAnyH_take (i := 25) (v := ?_) rfl (by kernel_rfl) (by kernel_rfl) (by kernel_rfl) (fun _ _ _ h => h) (Or.inl ⟨by rfl, ?_⟩) (by assumption) ?_; rotate_left; (focus (intro wq hSw; (try dsimp only at hSw); go_simp; (try with_reducible rfl))))
                  simp only [Act.put, List.getElem_toArray, List.getElem_cons_zero, List.getElem_cons_succ, List.setIfInBounds_toArray, List.set_cons_zero, List.set_cons_succ]
                  refine wpAnyH_take (i := 26) (v := ?_) rfl (by kernel_rfl) (by kernel_rfl) (by kernel_rfl) (fun _ _ _ h => h) (Or.inl ⟨by rfl, ?_⟩) (by assumption) ?_
                  rotate_left
                  · (intro wq hSw; (try dsimp only at hSw); go_simp; (try with_reducible rfl))
                  simp only [Act.put, List.getElem_toArray, List.getElem_cons_zero, List.getElem_cons_succ, List.setIfInBounds_toArray, List.set_cons_zero, List.set_cons_succ]
                  refine wpAnyH_take (i := 27) (v := ?_) rfl (by kernel_rfl) (by kernel_rfl) (by kernel_rfl) (fun _ _ _ h => h) (Or.inl ⟨by rfl, ?_⟩) (by assumption) ?_
                  rotate_left
                  · (intro wq hSw; (try dsimp only at hSw); go_simp; (try with_reducible rfl))
                  simp only [Act.put, List.getElem_toArray, List.getElem_cons_zero, List.getElem_cons_succ, List.setIfInBounds_toArray, List.set_cons_zero, List.set_cons_succ]
                  first
                  | (refine wpAnyH_take (i := 28) (v := undef) rfl (by kernel_rfl) (by kernel_rfl) (by kernel_rfl) (fun _ _ _ h => h) (Or.inr ⟨by rfl, rfl⟩) (by assumption) ?_)
                  | (refine wpAnyH_take (i := 28) (v := ?_) rfl (by kernel_rfl) (by kernel_rfl) (by kernel_rfl) (fun _ _ _ h => h) (Or.inl ⟨by rfl, ?_⟩) (by assumption) ?_; rotate_left; (focus (intro wq hSw; (try dsimp only at hSw); go_simp; (try with_reducible rfl))))
                  simp only [Act.put, List.getElem_toArray, List.getElem_cons_zero, List.getElem_cons_succ, List.setIfInBounds_toArray, List.set_cons_zero, List.set_cons_succ]
                  first
                  | (refine wpAnyH_take (i := 29) (v := undef) rfl (by kernel_rfl) (by kernel_rfl) (by kernel_rfl) (fun _ _ _ h => h) (Or.inr ⟨by rfl, rfl⟩) (by assumption) ?_)
                  | (refine wpAnyH_take (i := 29) (v := ?_) rfl (by kernel_rfl) (by kernel_rfl) (by kernel_rfl) (fun _ _ _ h => h) (Or.inl ⟨by rfl, ?_⟩) (by assumption) ?_; rotate_left; (focus (intro wq hSw; (try dsimp only at hSw); go_simp; (try with_reducible rfl))))
                  simp only [Act.put, List.getElem_toArray, List.getElem_cons_zero, List.getElem_cons_succ, List.setIfInBounds_toArray, List.set_cons_zero, List.set_cons_succ]
                  first
                  | (refine wpAnyH_take (i := 30) (v := undef) rfl (by kernel_rfl) (by kernel_rfl) (by kernel_rfl) (fun _ _ _ h => h) (Or.inr ⟨by rfl, rfl⟩) (by assumption) ?_)
                  | (refine wpAnyH_take (i := 30) (v := ?_) rfl (by kernel_rfl) (by kernel_rfl) (by kernel_rfl) (fun _ _ _ h => h) (Or.inl ⟨by rfl, ?_⟩) (by assumption) ?_; rotate_left; (focus (intro wq hSw; (try dsimp only at hSw); go_simp; (try with_reducible rfl))))
                  simp only [Act.put, List.getElem_toArray, List.getElem_cons_zero, List.getElem_cons_succ, List.setIfInBounds_toArray, List.set_cons_zero, List.set_cons_succ]
                  refine wpAnyH_ready (rs := [31]) (by kernel_rfl) (by simp) ?_
                  refine AllReadyH.cons (by simp only [List.getElem?_toArray, List.getElem?_cons_succ, List.getElem?_cons_zero]; rfl) (fun K hK => ?_) AllReadyH.nil
                  (go_simp; go_at_call 25; refine (HOF.out _ _).mono ?_; rintro _ wd ⟨rfl, hcd⟩; have HCC := Lib.hid (HCC.out.trans' hcd); clear hcd; go_simp)
                  refine hK.out _ _ ?_ (fun hHeld => ?_)
                  · (first | exact HS0.out | exact HKS.out _ HCC.out)
                  clear hK K
                  (try simp only [Act.put, List.getElem_toArray, List.getElem_cons_zero, List.getElem_cons_succ, List.setIfInBounds_toArray, List.set_cons_zero, List.set_cons_succ])
                  first
                  | (refine wpAnyH_take (i := 32) (v := undef) rfl (by kernel_rfl) (by kernel_rfl) (by kernel_rfl) (fun _ _ _ h => h) (Or.inr ⟨by rfl, rfl⟩) (by assumption) ?_)
                  | (refine wpAnyH_take (i := 32) (v := ?_) rfl (by kernel_rfl) (by kernel_rfl) (by kernel_rfl) (fun _ _ _ h => h) (Or.inl ⟨by rfl, ?_⟩) (by assumption) ?_; rotate_left; (focus (intro wq hSw; (try dsimp only at hSw); go_simp; (try with_reducible rfl))))
                  simp only [Act.put, List.getElem_toArray, List.getElem_cons_zero, List.getElem_cons_succ, List.setIfInBounds_toArray, List.set_cons_zero, List.set_cons_succ]
                  first
                  | (refine wpAnyH_take (i := 33) (v := undef) rfl (by kernel_rfl) (by kernel_rfl) (by kernel_rfl) (fun _ _ _ h => h) (Or.inr ⟨by rfl, rfl⟩) (by assumption) ?_)
                  | (refine wpAnyH_take (i := 33) (v := ?_) rfl (by kernel_rfl) (by kernel_rfl) (by kernel_rfl) (fun _ _ _ h => h) (Or.inl ⟨by rfl, ?_⟩) (by assumption) ?_; rotate_left; (focus (intro wq hSw; (try dsimp only at hSw); go_simp; (try with_reducible rfl))))
                  simp only [Act.put, List.getElem_toArray, List.getElem_cons_zero, List.getElem_cons_succ, List.setIfInBounds_toArray, List.set_cons_zero, List.set_cons_succ]
                  refine wpAnyH_done (by kernel_rfl) ?_ _
                  change wpList _ _ _ _ _ _
                  simp only [List.drop_succ_cons, List.drop_zero]
                  have HCX := Lib.hid ((HC8.out.trans' HWD.out).trans' HCC.out)
                  clear HS0 HKS hHeld HC8 HWD HCC
                  go_wp2_with fail
                  go_roundw
                  case rel => exact ⟨i + 1, by have := HLT.out; omega, rfl, HCX⟩
                  case measure => have := HLT.out; simp [intOf, w64]; omega
                · rw [decide_eq_true ((hms.1 hin).resolve_left hir)] at HW2
                  have zne : ¬ hC i = hC r := fun e => hir (hC_inj (by have := HLT.out; omega) (by have := HR.out; omega) e).symm
                  have zab : (hC i == hC r) = false := beq_false_of_ne zne
                  clear hlu c1 hms hin hir hi hlt
                  go_upto_region 26 with (go_at_call 29; refine HLU.out.mono ?_; rintro e wl ⟨rfl, hcl⟩)
                  have hb17 := alloc_block wl (.cells #[.int .i64 3, .int .i64 3, .string ⟨#[]⟩, .int .i64 0] 36)
                  have HC8 := Lib.hid (HCR.out.trans' (hcl.trans' (Chg.alloc (fun _ => False) wl (.cells #[.int .i64 3, .int .i64 3, .string ⟨#[]⟩, .int .i64 0] 36))))
                  generalize wl.alloc (.cells #[.int .i64 3, .int .i64 3, .string ⟨#[]⟩, .int .i64 0] 36) = w8 at *
                  generalize wl.heap.size = b17 at *
                  have m0 := cell_of_block (i := 0) hb17 rfl
                  have m1 := cell_of_block (i := 1) hb17 rfl
                  have m2 := cell_of_block (i := 2) hb17 rfl
                  have m3 := cell_of_block (i := 3) hb17 rfl
                  simp only [List.getElem_toArray, List.getElem_cons_zero, List.getElem_cons_succ] at m0 m1 m2 m3
                  have HS0 : Hid (w8.cell? ⟨gl, ol + i, none⟩ = some (.int .i64 (hC i)) ∧ w8.cell? ⟨b17, 0, none⟩ = some (.int .i64 3) ∧ w8.cell? ⟨b17, 1, none⟩ = some (.int .i64 3) ∧ w8.cell? ⟨b17, 2, none⟩ = some (.string ⟨#[]⟩) ∧ w8.cell? ⟨b17, 3, none⟩ = some (.int .i64 0)) := Lib.hid ⟨HC8.out.cell HCI.out, m0, m1, m2, m3⟩
                  clear m0 m1 m2 m3 hb17 hcl HLU HCR
                  refine wp_region_held_split 34 (fun w' => w'.cell? ⟨gl, ol + i, none⟩ = some (.int .i64 (hC i)) ∧ w'.cell? ⟨b17, 0, none⟩ = some (.int .i64 3) ∧ w'.cell? ⟨b17, 1, none⟩ = some (.int .i64 3) ∧ w'.cell? ⟨b17, 2, none⟩ = some (.string ⟨#[]⟩) ∧ w'.cell? ⟨b17, 3, none⟩ = some (.int .i64 0)) (by kernel_rfl) (by kernel_rfl) ?_ (fun hHeld => ?_)
                  · (first | exact HS0.out | exact HKS.out _ HCC.out)
                  simp only [List.take_succ_cons, List.take_zero]
                  have HKS : Hid (∀ W, Chg (fun _ => False) w8.drew W → W.cell? ⟨gl, ol + i, none⟩ = some (.int .i64 (hC i)) ∧ W.cell? ⟨b17, 0, none⟩ = some (.int .i64 3) ∧ W.cell? ⟨b17, 1, none⟩ = some (.int .i64 3) ∧ W.cell? ⟨b17, 2, none⟩ = some (.string ⟨#[]⟩) ∧ W.cell? ⟨b17, 3, none⟩ = some (.int .i64 0)) := Lib.hid (fun W hc => ⟨hc.cell HS0.out.1, hc.cell HS0.out.2.1, hc.cell HS0.out.2.2.1, hc.cell HS0.out.2.2.2.1, hc.cell HS0.out.2.2.2.2⟩)
                  have HWD : Hid (Chg (fun _ => False) w8 w8.drew) := Lib.hid (Chg.refl _ w8).drewR
                  have HWQ : Hid (∀ W, Chg (fun _ => False) w8.drew W → Chg (fun _ => False) Wp W) := Lib.hid (fun W hc => (HC8.out.trans' (Chg.refl _ w8).drewR).trans' hc)
                  generalize w8.drew = wD at *
                  have HCC := Lib.hid (Chg.refl (fun _ => False) wD)
                  refine wpAnyH_take (i := 0) (v := ?_) rfl (by kernel_rfl) (by kernel_rfl) (by kernel_rfl) (fun _ _ _ h => h) (Or.inl ⟨by rfl, ?_⟩) (by assumption) ?_
                  rotate_left
                  · (intro wq hSw; (try dsimp only at hSw); go_simp; (try with_reducible rfl))
                  simp only [Act.put, List.getElem_toArray, List.getElem_cons_zero, List.getElem_cons_succ, List.setIfInBounds_toArray, List.set_cons_zero, List.set_cons_succ]
                  refine wpAnyH_take (i := 1) (v := ?_) rfl (by kernel_rfl) (by kernel_rfl) (by kernel_rfl) (fun _ _ _ h => h) (Or.inl ⟨by rfl, ?_⟩) (by assumption) ?_
                  rotate_left
                  · (intro wq hSw; (try dsimp only at hSw); go_simp; (try with_reducible rfl))
                  simp only [Act.put, List.getElem_toArray, List.getElem_cons_zero, List.getElem_cons_succ, List.setIfInBounds_toArray, List.set_cons_zero, List.set_cons_succ]
                  refine wpAnyH_take (i := 2) (v := ?_) rfl (by kernel_rfl) (by kernel_rfl) (by kernel_rfl) (fun _ _ _ h => h) (Or.inl ⟨by rfl, ?_⟩) (by assumption) ?_
                  rotate_left
                  · (intro wq hSw; (try dsimp only at hSw); go_simp; (try with_reducible rfl))
                  simp only [Act.put, List.getElem_toArray, List.getElem_cons_zero, List.getElem_cons_succ, List.setIfInBounds_toArray, List.set_cons_zero, List.set_cons_succ]
                  refine wpAnyH_take (i := 3) (v := ?_) rfl (by kernel_rfl) (by kernel_rfl) (by kernel_rfl) (fun _ _ _ h => h) (Or.inl ⟨by rfl, ?_⟩) (by assumption) ?_
                  rotate_left
                  · (intro wq hSw; (try dsimp only at hSw); go_simp; (try with_reducible rfl))
                  simp only [Act.put, List.getElem_toArray, List.getElem_cons_zero, List.getElem_cons_succ, List.setIfInBounds_toArray, List.set_cons_zero, List.set_cons_succ]
                  refine wpAnyH_take (i := 4) (v := ?_) rfl (by kernel_rfl) (by kernel_rfl) (by kernel_rfl) (fun _ _ _ h => h) (Or.inl ⟨by rfl, ?_⟩) (by assumption) ?_
                  rotate_left
                  · (intro wq hSw; (try dsimp only at hSw); go_simp; (try with_reducible rfl))
                  simp only [Act.put, List.getElem_toArray, List.getElem_cons_zero, List.getElem_cons_succ, List.setIfInBounds_toArray, List.set_cons_zero, List.set_cons_succ]
                  refine wpAnyH_take (i := 5) (v := ?_) rfl (by kernel_rfl) (by kernel_rfl) (by kernel_rfl) (fun _ _ _ h => h) (Or.inl ⟨by rfl, ?_⟩) (by assumption) ?_
                  rotate_left
                  · (intro wq hSw; (try dsimp only at hSw); go_simp; (try with_reducible rfl))
                  simp only [Act.put, List.getElem_toArray, List.getElem_cons_zero, List.getElem_cons_succ, List.setIfInBounds_toArray, List.set_cons_zero, List.set_cons_succ]
                  refine wpAnyH_take (i := 6) (v := ?_) rfl (by kernel_rfl) (by kernel_rfl) (by kernel_rfl) (fun _ _ _ h => h) (Or.inl ⟨by rfl, ?_⟩) (by assumption) ?_
                  rotate_left
                  · (intro wq hSw; (try dsimp only at hSw); go_simp; (try with_reducible rfl))
                  simp only [Act.put, List.getElem_toArray, List.getElem_cons_zero, List.getElem_cons_succ, List.setIfInBounds_toArray, List.set_cons_zero, List.set_cons_succ]
                  refine wpAnyH_take (i := 7) (v := ?_) rfl (by kernel_rfl) (by kernel_rfl) (by kernel_rfl) (fun _ _ _ h => h) (Or.inl ⟨by rfl, ?_⟩) (by assumption) ?_
                  rotate_left
                  · (intro wq hSw; (try dsimp only at hSw); go_simp; (try with_reducible rfl))
                  simp only [Act.put, List.getElem_toArray, List.getElem_cons_zero, List.getElem_cons_succ, List.setIfInBounds_toArray, List.set_cons_zero, List.set_cons_succ]
                  refine wpAnyH_ready (rs := [8]) (by kernel_rfl) (by simp) ?_
                  refine AllReadyH.cons (by simp only [List.getElem?_toArray, List.getElem?_cons_succ, List.getElem?_cons_zero]; rfl) (fun K hK => ?_) AllReadyH.nil
                  (go_simp; go_at_call 17; refine (HW1.out _ (HWQ.out _ HCC.out)).mono ?_; rintro _ wd ⟨rfl, hcd⟩; have HCC := Lib.hid (HCC.out.trans' hcd); clear hcd; go_simp)
                  refine hK.out _ _ ?_ (fun hHeld => ?_)
                  · (first | exact HS0.out | exact HKS.out _ HCC.out)
                  clear hK K
                  (try simp only [Act.put, List.getElem_toArray, List.getElem_cons_zero, List.getElem_cons_succ, List.setIfInBounds_toArray, List.set_cons_zero, List.set_cons_succ])
                  refine wpAnyH_take (i := 9) (v := ?_) rfl (by kernel_rfl) (by kernel_rfl) (by kernel_rfl) (fun _ _ _ h => h) (Or.inl ⟨by rfl, ?_⟩) (by assumption) ?_
                  rotate_left
                  · (intro wq hSw; (try dsimp only at hSw); go_simp; (try with_reducible rfl))
                  simp only [Act.put, List.getElem_toArray, List.getElem_cons_zero, List.getElem_cons_succ, List.setIfInBounds_toArray, List.set_cons_zero, List.set_cons_succ]
                  first
                  | (refine wpAnyH_take (i := 10) (v := undef) rfl (by kernel_rfl) (by kernel_rfl) (by kernel_rfl) (fun _ _ _ h => h) (Or.inr ⟨by rfl, rfl⟩) (by assumption) ?_)
                  | (refine wpAnyH_take (i := 10) (v := ?_) rfl (by kernel_rfl) (by kernel_rfl) (by kernel_rfl) (fun _ _ _ h => h) (Or.inl ⟨by rfl, ?_⟩) (by assumption) ?_; rotate_left; (focus (intro wq hSw; (try dsimp only at hSw); go_simp; (try with_reducible rfl))))
                  simp only [Act.put, List.getElem_toArray, List.getElem_cons_zero, List.getElem_cons_succ, List.setIfInBounds_toArray, List.set_cons_zero, List.set_cons_succ]
                  first
                  | (refine wpAnyH_take (i := 11) (v := undef) rfl (by kernel_rfl) (by kernel_rfl) (by kernel_rfl) (fun _ _ _ h => h) (Or.inr ⟨by rfl, rfl⟩) (by assumption) ?_)
                  | (refine wpAnyH_take (i := 11) (v := ?_) rfl (by kernel_rfl) (by kernel_rfl) (by kernel_rfl) (fun _ _ _ h => h) (Or.inl ⟨by rfl, ?_⟩) (by assumption) ?_; rotate_left; (focus (intro wq hSw; (try dsimp only at hSw); go_simp; (try with_reducible rfl))))
                  simp only [Act.put, List.getElem_toArray, List.getElem_cons_zero, List.getElem_cons_succ, List.setIfInBounds_toArray, List.set_cons_zero, List.set_cons_succ]
                  first
                  | (refine wpAnyH_take (i := 12) (v := undef) rfl (by kernel_rfl) (by kernel_rfl) (by kernel_rfl) (fun _ _ _ h => h) (Or.inr ⟨by rfl, rfl⟩) (by assumption) ?_)
                  | (refine wpAnyH_take (i := 12) (v := ?_) rfl (by kernel_rfl) (by kernel_rfl) (by kernel_rfl) (fun _ _ _ h => h) (Or.inl ⟨by rfl, ?_⟩) (by assumption) ?_; rotate_left; (focus (intro wq hSw; (try dsimp only at hSw); go_simp; (try with_reducible rfl))))
                  simp only [Act.put, List.getElem_toArray, List.getElem_cons_zero, List.getElem_cons_succ, List.setIfInBounds_toArray, List.set_cons_zero, List.set_cons_succ]
                  first
                  | (refine wpAnyH_take (i := 13) (v := undef) rfl (by kernel_rfl) (by kernel_rfl) (by kernel_rfl) (fun _ _ _ h => h) (Or.inr ⟨by rfl, rfl⟩) (by assumption) ?_)
                  | (refine wpAnyH_take (i := 13) (v := ?_) rfl (by kernel_rfl) (by kernel_rfl) (by kernel_rfl) (fun _ _ _ h => h) (Or.inl ⟨by rfl, ?_⟩) (by assumption) ?_; rotate_left; (focus (intro wq hSw; (try dsimp only at hSw); go_simp; (try with_reducible rfl))))
                  simp only [Act.put, List.getElem_toArray, List.getElem_cons_zero, List.getElem_cons_succ, List.setIfInBounds_toArray, List.set_cons_zero, List.set_cons_succ]
                  first
                  | (refine wpAnyH_take (i := 14) (v := undef) rfl (by kernel_rfl) (by kernel_rfl) (by kernel_rfl) (fun _ _ _ h => h) (Or.inr ⟨by rfl, rfl⟩) (by assumption) ?_)
                  | (refine wpAnyH_take (i := 14) (v := ?_) rfl (by kernel_rfl) (by kernel_rfl) (by kernel_rfl) (fun _ _ _ h => h) (Or.inl ⟨by rfl, ?_⟩) (by assumption) ?_; rotate_left; (focus (intro wq hSw; (try dsimp only at hSw); go_simp; (try with_reducible rfl))))
                  simp only [Act.put, List.getElem_toArray, List.getElem_cons_zero, List.getElem_cons_succ, List.setIfInBounds_toArray, List.set_cons_zero, List.set_cons_succ]
                  first
                  | (refine wpAnyH_take (i := 15) (v := undef) rfl (by kernel_rfl) (by kernel_rfl) (by kernel_rfl) (fun _ _ _ h => h) (Or.inr ⟨by rfl, rfl⟩) (by assumption) ?_)
                  | (refine wpAnyH_take (i := 15) (v := ?_) rfl (by kernel_rfl) (by kernel_rfl) (by kernel_rfl) (fun _ _ _ h => h) (Or.inl ⟨by rfl, ?_⟩) (by assumption) ?_; rotate_left; (focus (intro wq hSw; (try dsimp only at hSw); go_simp; (try with_reducible rfl))))
                  simp only [Act.put, List.getElem_toArray, List.getElem_cons_zero, List.getElem_cons_succ, List.setIfInBounds_toArray, List.set_cons_zero, List.set_cons_succ]
                  first
                  | (refine wpAnyH_take (i := 16) (v := undef) rfl (by kernel_rfl) (by kernel_rfl) (by kernel_rfl) (fun _ _ _ h => h) (Or.inr ⟨by rfl, rfl⟩) (by assumption) ?_)
                  | (refine wpAnyH_take (i := 16) (v := ?_) rfl (by kernel_rfl) (by kernel_rfl) (by kernel_rfl) (fun _ _ _ h => h) (Or.inl ⟨by rfl, ?_⟩) (by assumption) ?_; rotate_left; (focus (intro wq hSw; (try dsimp only at hSw); go_simp; (try with_reducible rfl))))
                  simp only [Act.put, List.getElem_toArray, List.getElem_cons_zero, List.getElem_cons_succ, List.setIfInBounds_toArray, List.set_cons_zero, List.set_cons_succ]
                  first
                  | (refine wpAnyH_take (i := 17) (v := undef) rfl (by kernel_rfl) (by kernel_rfl) (by kernel_rfl) (fun _ _ _ h => h) (Or.inr ⟨by rfl, rfl⟩) (by assumption) ?_)
                  | (refine wpAnyH_take (i := 17) (v := ?_) rfl (by kernel_rfl) (by kernel_rfl) (by kernel_rfl) (fun _ _ _ h => h) (Or.inl ⟨by rfl, ?_⟩) (by assumption) ?_; rotate_left; (focus (intro wq hSw; (try dsimp only at hSw); go_simp; (try with_reducible rfl))))
                  simp only [Act.put, List.getElem_toArray, List.getElem_cons_zero, List.getElem_cons_succ, List.setIfInBounds_toArray, List.set_cons_zero, List.set_cons_succ]
                  first
                  | (refine wpAnyH_take (i := 18) (v := undef) rfl (by kernel_rfl) (by kernel_rfl) (by kernel_rfl) (fun _ _ _ h => h) (Or.inr ⟨by rfl, rfl⟩) (by assumption) ?_)
                  | (refine wpAnyH_take (i := 18) (v := ?_) rfl (by kernel_rfl) (by kernel_rfl) (by kernel_rfl) (fun _ _ _ h => h) (Or.inl ⟨by rfl, ?_⟩) (by assumption) ?_; rotate_left; (focus (intro wq hSw; (try dsimp only at hSw); go_simp; (try with_reducible rfl))))
                  simp only [Act.put, List.getElem_toArray, List.getElem_cons_zero, List.getElem_cons_succ, List.setIfInBounds_toArray, List.set_cons_zero, List.set_cons_succ]
                  first
                  | (refine wpAnyH_take (i := 19) (v := undef) rfl (by kernel_rfl) (by kernel_rfl) (by kernel_rfl) (fun _ _ _ h => h) (Or.inr ⟨by rfl, rfl⟩) (by assumption) ?_)
                  | (refine wpAnyH_take (i := 19) (v := ?_) rfl (by kernel_rfl) (by kernel_rfl) (by kernel_rfl) (fun _ _ _ h => h) (Or.inl ⟨by rfl, ?_⟩) (by assumption) ?_; rotate_left; (focus (intro wq hSw; (try dsimp only at hSw); go_simp; (try with_reducible rfl))))
                  simp only [Act.put, List.getElem_toArray, List.getElem_cons_zero, List.getElem_cons_succ, List.setIfInBounds_toArray, List.set_cons_zero, List.set_cons_succ]
                  first
                  | (refine wpAnyH_take (i := 20) (v := undef) rfl (by kernel_rfl) (by kernel_rfl) (by kernel_rfl) (fun _ _ _ h => h) (Or.inr ⟨by rfl, rfl⟩) (by assumption) ?_)
                  | (refine wpAnyH_take (i := 20) (v := ?_) rfl (by kernel_rfl) (by kernel_rfl) (by kernel_rfl) (fun _ _ _ h => h) (Or.inl ⟨by rfl, ?_⟩) (by assumption) ?_; rotate_left; (focus (intro wq hSw; (try dsimp only at hSw); go_simp; (try with_reducible rfl))))
                  simp only [Act.put, List.getElem_toArray, List.getElem_cons_zero, List.getElem_cons_succ, List.setIfInBounds_toArray, List.set_cons_zero, List.set_cons_succ]
                  first
                  | (refine wpAnyH_take (i := 21) (v := undef) rfl (by kernel_rfl) (by kernel_rfl) (by kernel_rfl) (fun _ _ _ h => h) (Or.inr ⟨by rfl, rfl⟩) (by assumption) ?_)
                  | (refine wpAnyH_take (i := 21) (v := ?_) rfl (by kernel_rfl) (by kernel_rfl) (by kernel_rfl) (fun _ _ _ h => h) (Or.inl ⟨by rfl, ?_⟩) (by assumption) ?_; rotate_left; (focus (intro wq hSw; (try dsimp only at hSw); go_simp; (try with_reducible rfl))))
                  simp only [Act.put, List.getElem_toArray, List.getElem_cons_zero, List.getElem_cons_succ, List.setIfInBounds_toArray, List.set_cons_zero, List.set_cons_succ]
                  first
                  | (refine wpAnyH_take (i := 22) (v := undef) rfl (by kernel_rfl) (by kernel_rfl) (by kernel_rfl) (fun _ _ _ h => h) (Or.inr ⟨by rfl, rfl⟩) (by assumption) ?_)
                  | (refine wpAnyH_take (i := 22) (v := ?_) rfl (by kernel_rfl) (by kernel_rfl) (by kernel_rfl) (fun _ _ _ h => h) (Or.inl ⟨by rfl, ?_⟩) (by assumption) ?_; rotate_left; (focus (intro wq hSw; (try dsimp only at hSw); go_simp; (try with_reducible rfl))))
                  simp only [Act.put, List.getElem_toArray, List.getElem_cons_zero, List.getElem_cons_succ, List.setIfInBounds_toArray, List.set_cons_zero, List.set_cons_succ]
                  refine wpAnyH_ready (rs := [23]) (by kernel_rfl) (by simp) ?_
                  refine AllReadyH.cons (by simp only [List.getElem?_toArray, List.getElem?_cons_succ, List.getElem?_cons_zero]; rfl) (fun K hK => ?_) AllReadyH.nil
                  (go_simp; go_at_call 17; refine (HW2.out _ (HWQ.out _ HCC.out)).mono ?_; rintro _ wd ⟨rfl, hcd⟩; have HCC := Lib.hid (HCC.out.trans' hcd); clear hcd; go_simp)
                  refine hK.out _ _ ?_ (fun hHeld => ?_)
                  · (first | exact HS0.out | exact HKS.out _ HCC.out)
                  clear hK K
                  (try simp only [Act.put, List.getElem_toArray, List.getElem_cons_zero, List.getElem_cons_succ, List.setIfInBounds_toArray, List.set_cons_zero, List.set_cons_succ])
                  first
                  | (refine wpAnyH_take (i := 24) (v := undef) rfl (by kernel_rfl) (by kernel_rfl) (by kernel_rfl) (fun _ _ _ h => h) (Or.inr ⟨by rfl, rfl⟩) (by assumption) ?_)
                  | (refine wpAnyH_take (i := 24) (v := ?_) rfl (by kernel_rfl) (by kernel_rfl) (by kernel_rfl) (fun _ _ _ h => h) (Or.inl ⟨by rfl, ?_⟩) (by assumption) ?_; rotate_left; (focus (intro wq hSw; (try dsimp only at hSw); go_simp; (try with_reducible rfl))))
                  simp only [Act.put, List.getElem_toArray, List.getElem_cons_zero, List.getElem_cons_succ, List.setIfInBounds_toArray, List.set_cons_zero, List.set_cons_succ]
                  first
                  | (refine wpAnyH_take (i := 25) (v := undef) rfl (by kernel_rfl) (by kernel_rfl) (by kernel_rfl) (fun _ _ _ h => h) (Or.inr ⟨by rfl, rfl⟩) (by assumption) ?_)
                  | (refine wpAnyH_take (i := 25) (v := ?_) rfl (by kernel_rfl) (by kernel_rfl) (by kernel_rfl) (fun _ _ _ h => h) (Or.inl ⟨by rfl, ?_⟩) (by assumption) ?_; rotate_left; (focus (intro wq hSw; (try dsimp only at hSw); go_simp; (try with_reducible rfl))))
                  simp only [Act.put, List.getElem_toArray, List.getElem_cons_zero, List.getElem_cons_succ, List.setIfInBounds_toArray, List.set_cons_zero, List.set_cons_succ]
                  refine wpAnyH_take (i := 26) (v := ?_) rfl (by kernel_rfl) (by kernel_rfl) (by kernel_rfl) (fun _ _ _ h => h) (Or.inl ⟨by rfl, ?_⟩) (by assumption) ?_
                  rotate_left
                  · (intro wq hSw; (try dsimp only at hSw); go_simp; (try with_reducible rfl))
                  simp only [Act.put, List.getElem_toArray, List.getElem_cons_zero, List.getElem_cons_succ, List.setIfInBounds_toArray, List.set_cons_zero, List.set_cons_succ]
                  refine wpAnyH_take (i := 27) (v := ?_) rfl (by kernel_rfl) (by kernel_rfl) (by kernel_rfl) (fun _ _ _ h => h) (Or.inl ⟨by rfl, ?_⟩) (by assumption) ?_
                  rotate_left
                  · (intro wq hSw; (try dsimp only at hSw); go_simp; (try with_reducible rfl))
                  simp only [Act.put, List.getElem_toArray, List.getElem_cons_zero, List.getElem_cons_succ, List.setIfInBounds_toArray, List.set_cons_zero, List.set_cons_succ]
                  first
                  | (refine wpAnyH_take (i := 28) (v := undef) rfl (by kernel_rfl) (by kernel_rfl) (by kernel_rfl) (fun _ _ _ h => h) (Or.inr ⟨by rfl, rfl⟩) (by assumption) ?_)
                  | (refine wpAnyH_take (i := 28) (v := ?_) rfl (by kernel_rfl) (by kernel_rfl) (by kernel_rfl) (fun _ _ _ h => h) (Or.inl ⟨by rfl, ?_⟩) (by assumption) ?_; rotate_left; (focus (intro wq hSw; (try dsimp only at hSw); go_simp; (try with_reducible rfl))))
                  simp only [Act.put, List.getElem_toArray, List.getElem_cons_zero, List.getElem_cons_succ, List.setIfInBounds_toArray, List.set_cons_zero, List.set_cons_succ]
                  first
                  | (refine wpAnyH_take (i := 29) (v := undef) rfl (by kernel_rfl) (by kernel_rfl) (by kernel_rfl) (fun _ _ _ h => h) (Or.inr ⟨by rfl, rfl⟩) (by assumption) ?_)
                  | (refine wpAnyH_take (i := 29) (v := ?_) rfl (by kernel_rfl) (by kernel_rfl) (by kernel_rfl) (fun _ _ _ h => h) (Or.inl ⟨by rfl, ?_⟩) (by assumption) ?_; rotate_left; (focus (intro wq hSw; (try dsimp only at hSw); go_simp; (try with_reducible rfl))))
                  simp only [Act.put, List.getElem_toArray, List.getElem_cons_zero, List.getElem_cons_succ, List.setIfInBounds_toArray, List.set_cons_zero, List.set_cons_succ]
                  first
                  | (refine wpAnyH_take (i := 30) (v := undef) rfl (by kernel_rfl) (by kernel_rfl) (by kernel_rfl) (fun _ _ _ h => h) (Or.inr ⟨by rfl, rfl⟩) (by assumption) ?_)
                  | (refine wpAnyH_take (i := 30) (v := ?_) rfl (by kernel_rfl) (by kernel_rfl) (by kernel_rfl) (fun _ _ _ h => h) (Or.inl ⟨by rfl, ?_⟩) (by assumption) ?_; rotate_left; (focus (intro wq hSw; (try dsimp only at hSw); go_simp; (try with_reducible rfl))))
                  simp only [Act.put, List.getElem_toArray, List.getElem_cons_zero, List.getElem_cons_succ, List.setIfInBounds_toArray, List.set_cons_zero, List.set_cons_succ]
                  refine wpAnyH_ready (rs := [31]) (by kernel_rfl) (by simp) ?_
                  refine AllReadyH.cons (by simp only [List.getElem?_toArray, List.getElem?_cons_succ, List.getElem?_cons_zero]; rfl) (fun K hK => ?_) AllReadyH.nil
                  (go_simp; go_at_call 25; refine (HOF.out _ _).mono ?_; rintro _ wd ⟨rfl, hcd⟩; have HCC := Lib.hid (HCC.out.trans' hcd); clear hcd; go_simp)
                  refine hK.out _ _ ?_ (fun hHeld => ?_)
                  · (first | exact HS0.out | exact HKS.out _ HCC.out)
                  clear hK K
                  (try simp only [Act.put, List.getElem_toArray, List.getElem_cons_zero, List.getElem_cons_succ, List.setIfInBounds_toArray, List.set_cons_zero, List.set_cons_succ])
                  first
                  | (refine wpAnyH_take (i := 32) (v := undef) rfl (by kernel_rfl) (by kernel_rfl) (by kernel_rfl) (fun _ _ _ h => h) (Or.inr ⟨by rfl, rfl⟩) (by assumption) ?_)
                  | (refine wpAnyH_take (i := 32) (v := ?_) rfl (by kernel_rfl) (by kernel_rfl) (by kernel_rfl) (fun _ _ _ h => h) (Or.inl ⟨by rfl, ?_⟩) (by assumption) ?_; rotate_left; (focus (intro wq hSw; (try dsimp only at hSw); go_simp; (try with_reducible rfl))))
                  simp only [Act.put, List.getElem_toArray, List.getElem_cons_zero, List.getElem_cons_succ, List.setIfInBounds_toArray, List.set_cons_zero, List.set_cons_succ]
                  first
                  | (refine wpAnyH_take (i := 33) (v := undef) rfl (by kernel_rfl) (by kernel_rfl) (by kernel_rfl) (fun _ _ _ h => h) (Or.inr ⟨by rfl, rfl⟩) (by assumption) ?_)
                  | (refine wpAnyH_take (i := 33) (v := ?_) rfl (by kernel_rfl) (by kernel_rfl) (by kernel_rfl) (fun _ _ _ h => h) (Or.inl ⟨by rfl, ?_⟩) (by assumption) ?_; rotate_left; (focus (intro wq hSw; (try dsimp only at hSw); go_simp; (try with_reducible rfl))))
                  simp only [Act.put, List.getElem_toArray, List.getElem_cons_zero, List.getElem_cons_succ, List.setIfInBounds_toArray, List.set_cons_zero, List.set_cons_succ]
                  refine wpAnyH_done (by kernel_rfl) ?_ _
                  change wpList _ _ _ _ _ _
                  simp only [List.drop_succ_cons, List.drop_zero]
                  have HCX := Lib.hid ((HC8.out.trans' HWD.out).trans' HCC.out)
                  clear HS0 HKS hHeld HC8 HWD HCC
                  go_wp2_with fail
                  go_roundw
                  case rel => exact ⟨i + 1, by have := HLT.out; omega, rfl, HCX⟩
                  case measure => have := HLT.out; simp [intOf, w64]; omega
              · rw [if_neg hin] at hlu
                have HLU := Lib.hid (show Calls Tryd.prog 29 #[.pointer (some ⟨bh, 0, none⟩), .int .i64 (hC i), .string ⟨#[112]⟩] wr fun e w' => e = .returned (.tuple #[.agg #[.int .i64 0, .int .i64 0, .string ⟨#[]⟩, .int .i64 0], .bool false]) ∧ Chg (fun _ => False) wr w' from hlu)
                rw [decide_eq_false (fun e => hin (hms.2 (.inr e)))] at HW2
                have zne : ¬ hC i = hC r := fun e => hin (hms.2 (.inl (hC_inj (by have := HLT.out; omega) (by have := HR.out; omega) e).symm))
                have zab : (hC i == hC r) = false := beq_false_of_ne zne
                clear hlu c1 hms hin hi hlt
                go_upto_region 26 with (go_at_call 29; refine HLU.out.mono ?_; rintro e wl ⟨rfl, hcl⟩)
                have hb17 := alloc_block wl (.cells #[.int .i64 0, .int .i64 0, .string ⟨#[]⟩, .int .i64 0] 36)
                have HC8 := Lib.hid (HCR.out.trans' (hcl.trans' (Chg.alloc (fun _ => False) wl (.cells #[.int .i64 0, .int .i64 0, .string ⟨#[]⟩, .int .i64 0] 36))))
                generalize wl.alloc (.cells #[.int .i64 0, .int .i64 0, .string ⟨#[]⟩, .int .i64 0] 36) = w8 at *
                generalize wl.heap.size = b17 at *
                have m0 := cell_of_block (i := 0) hb17 rfl
                have m1 := cell_of_block (i := 1) hb17 rfl
                have m2 := cell_of_block (i := 2) hb17 rfl
                have m3 := cell_of_block (i := 3) hb17 rfl
                simp only [List.getElem_toArray, List.getElem_cons_zero, List.getElem_cons_succ] at m0 m1 m2 m3
                have HS0 : Hid (w8.cell? ⟨gl, ol + i, none⟩ = some (.int .i64 (hC i)) ∧ w8.cell? ⟨b17, 0, none⟩ = some (.int .i64 0) ∧ w8.cell? ⟨b17, 1, none⟩ = some (.int .i64 0) ∧ w8.cell? ⟨b17, 2, none⟩ = some (.string ⟨#[]⟩) ∧ w8.cell? ⟨b17, 3, none⟩ = some (.int .i64 0)) := Lib.hid ⟨HC8.out.cell HCI.out, m0, m1, m2, m3⟩
                clear m0 m1 m2 m3 hb17 hcl HLU HCR
                refine wp_region_held_split 34 (fun w' => w'.cell? ⟨gl, ol + i, none⟩ = some (.int .i64 (hC i)) ∧ w'.cell? ⟨b17, 0, none⟩ = some (.int .i64 0) ∧ w'.cell? ⟨b17, 1, none⟩ = some (.int .i64 0) ∧ w'.cell? ⟨b17, 2, none⟩ = some (.string ⟨#[]⟩) ∧ w'.cell? ⟨b17, 3, none⟩ = some (.int .i64 0)) (by kernel_rfl) (by kernel_rfl) ?_ (fun hHeld => ?_)
                · (first | exact HS0.out | exact HKS.out _ HCC.out)
                simp only [List.take_succ_cons, List.take_zero]
                have HKS : Hid (∀ W, Chg (fun _ => False) w8.drew W → W.cell? ⟨gl, ol + i, none⟩ = some (.int .i64 (hC i)) ∧ W.cell? ⟨b17, 0, none⟩ = some (.int .i64 0) ∧ W.cell? ⟨b17, 1, none⟩ = some (.int .i64 0) ∧ W.cell? ⟨b17, 2, none⟩ = some (.string ⟨#[]⟩) ∧ W.cell? ⟨b17, 3, none⟩ = some (.int .i64 0)) := Lib.hid (fun W hc => ⟨hc.cell HS0.out.1, hc.cell HS0.out.2.1, hc.cell HS0.out.2.2.1, hc.cell HS0.out.2.2.2.1, hc.cell HS0.out.2.2.2.2⟩)
                have HWD : Hid (Chg (fun _ => False) w8 w8.drew) := Lib.hid (Chg.refl _ w8).drewR
                have HWQ : Hid (∀ W, Chg (fun _ => False) w8.drew W → Chg (fun _ => False) Wp W) := Lib.hid (fun W hc => (HC8.out.trans' (Chg.refl _ w8).drewR).trans' hc)
                generalize w8.drew = wD at *
                have HCC := Lib.hid (Chg.refl (fun _ => False) wD)
                refine wpAnyH_take (i := 0) (v := ?_) rfl (by kernel_rfl) (by kernel_rfl) (by kernel_rfl) (fun _ _ _ h => h) (Or.inl ⟨by rfl, ?_⟩) (by assumption) ?_
                rotate_left
                · (intro wq hSw; (try dsimp only at hSw); go_simp; (try with_reducible rfl))
                simp only [Act.put, List.getElem_toArray, List.getElem_cons_zero, List.getElem_cons_succ, List.setIfInBounds_toArray, List.set_cons_zero, List.set_cons_succ]
                refine wpAnyH_take (i := 1) (v := ?_) rfl (by kernel_rfl) (by kernel_rfl) (by kernel_rfl) (fun _ _ _ h => h) (Or.inl ⟨by rfl, ?_⟩) (by assumption) ?_
                rotate_left
                · (intro wq hSw; (try dsimp only at hSw); go_simp; (try with_reducible rfl))
                simp only [Act.put, List.getElem_toArray, List.getElem_cons_zero, List.getElem_cons_succ, List.setIfInBounds_toArray, List.set_cons_zero, List.set_cons_succ]
                refine wpAnyH_take (i := 2) (v := ?_) rfl (by kernel_rfl) (by kernel_rfl) (by kernel_rfl) (fun _ _ _ h => h) (Or.inl ⟨by rfl, ?_⟩) (by assumption) ?_
                rotate_left
                · (intro wq hSw; (try dsimp only at hSw); go_simp; (try with_reducible rfl))
                simp only [Act.put, List.getElem_toArray, List.getElem_cons_zero, List.getElem_cons_succ, List.setIfInBounds_toArray, List.set_cons_zero, List.set_cons_succ]
                refine wpAnyH_take (i := 3) (v := ?_) rfl (by kernel_rfl) (by kernel_rfl) (by kernel_rfl) (fun _ _ _ h => h) (Or.inl ⟨by rfl, ?_⟩) (by assumption) ?_
                rotate_left
                · (intro wq hSw; (try dsimp only at hSw); go_simp; (try with_reducible rfl))
                simp only [Act.put, List.getElem_toArray, List.getElem_cons_zero, List.getElem_cons_succ, List.setIfInBounds_toArray, List.set_cons_zero, List.set_cons_succ]
                refine wpAnyH_take (i := 4) (v := ?_) rfl (by kernel_rfl) (by kernel_rfl) (by kernel_rfl) (fun _ _ _ h => h) (Or.inl ⟨by rfl, ?_⟩) (by assumption) ?_
                rotate_left
                · (intro wq hSw; (try dsimp only at hSw); go_simp; (try with_reducible rfl))
                simp only [Act.put, List.getElem_toArray, List.getElem_cons_zero, List.getElem_cons_succ, List.setIfInBounds_toArray, List.set_cons_zero, List.set_cons_succ]
                refine wpAnyH_take (i := 5) (v := ?_) rfl (by kernel_rfl) (by kernel_rfl) (by kernel_rfl) (fun _ _ _ h => h) (Or.inl ⟨by rfl, ?_⟩) (by assumption) ?_
                rotate_left
                · (intro wq hSw; (try dsimp only at hSw); go_simp; (try with_reducible rfl))
                simp only [Act.put, List.getElem_toArray, List.getElem_cons_zero, List.getElem_cons_succ, List.setIfInBounds_toArray, List.set_cons_zero, List.set_cons_succ]
                refine wpAnyH_take (i := 6) (v := ?_) rfl (by kernel_rfl) (by kernel_rfl) (by kernel_rfl) (fun _ _ _ h => h) (Or.inl ⟨by rfl, ?_⟩) (by assumption) ?_
                rotate_left
                · (intro wq hSw; (try dsimp only at hSw); go_simp; (try with_reducible rfl))
                simp only [Act.put, List.getElem_toArray, List.getElem_cons_zero, List.getElem_cons_succ, List.setIfInBounds_toArray, List.set_cons_zero, List.set_cons_succ]
                refine wpAnyH_take (i := 7) (v := ?_) rfl (by kernel_rfl) (by kernel_rfl) (by kernel_rfl) (fun _ _ _ h => h) (Or.inl ⟨by rfl, ?_⟩) (by assumption) ?_
                rotate_left
                · (intro wq hSw; (try dsimp only at hSw); go_simp; (try with_reducible rfl))
                simp only [Act.put, List.getElem_toArray, List.getElem_cons_zero, List.getElem_cons_succ, List.setIfInBounds_toArray, List.set_cons_zero, List.set_cons_succ]
                refine wpAnyH_ready (rs := [8]) (by kernel_rfl) (by simp) ?_
                refine AllReadyH.cons (by simp only [List.getElem?_toArray, List.getElem?_cons_succ, List.getElem?_cons_zero]; rfl) (fun K hK => ?_) AllReadyH.nil
                (go_simp; go_at_call 17; refine (HW1.out _ (HWQ.out _ HCC.out)).mono ?_; rintro _ wd ⟨rfl, hcd⟩; have HCC := Lib.hid (HCC.out.trans' hcd); clear hcd; go_simp)
                refine hK.out _ _ ?_ (fun hHeld => ?_)
                · (first | exact HS0.out | exact HKS.out _ HCC.out)
                clear hK K
                (try simp only [Act.put, List.getElem_toArray, List.getElem_cons_zero, List.getElem_cons_succ, List.setIfInBounds_toArray, List.set_cons_zero, List.set_cons_succ])
                refine wpAnyH_take (i := 9) (v := ?_) rfl (by kernel_rfl) (by kernel_rfl) (by kernel_rfl) (fun _ _ _ h => h) (Or.inl ⟨by rfl, ?_⟩) (by assumption) ?_
                rotate_left
                · (intro wq hSw; (try dsimp only at hSw); go_simp; (try with_reducible rfl))
                simp only [Act.put, List.getElem_toArray, List.getElem_cons_zero, List.getElem_cons_succ, List.setIfInBounds_toArray, List.set_cons_zero, List.set_cons_succ]
                first
                | (refine wpAnyH_take (i := 10) (v := undef) rfl (by kernel_rfl) (by kernel_rfl) (by kernel_rfl) (fun _ _ _ h => h) (Or.inr ⟨by rfl, rfl⟩) (by assumption) ?_)
                | (refine wpAnyH_take (i := 10) (v := ?_) rfl (by kernel_rfl) (by kernel_rfl) (by kernel_rfl) (fun _ _ _ h => h) (Or.inl ⟨by rfl, ?_⟩) (by assumption) ?_; rotate_left; (focus (intro wq hSw; (try dsimp only at hSw); go_simp; (try with_reducible rfl))))
                simp only [Act.put, List.getElem_toArray, List.getElem_cons_zero, List.getElem_cons_succ, List.setIfInBounds_toArray, List.set_cons_zero, List.set_cons_succ]
                first
                | (refine wpAnyH_take (i := 11) (v := undef) rfl (by kernel_rfl) (by kernel_rfl) (by kernel_rfl) (fun _ _ _ h => h) (Or.inr ⟨by rfl, rfl⟩) (by assumption) ?_)
                | (refine wpAnyH_take (i := 11) (v := ?_) rfl (by kernel_rfl) (by kernel_rfl) (by kernel_rfl) (fun _ _ _ h => h) (Or.inl ⟨by rfl, ?_⟩) (by assumption) ?_; rotate_left; (focus (intro wq hSw; (try dsimp only at hSw); go_simp; (try with_reducible rfl))))
                simp only [Act.put, List.getElem_toArray, List.getElem_cons_zero, List.getElem_cons_succ, List.setIfInBounds_toArray, List.set_cons_zero, List.set_cons_succ]
                first
                | (refine wpAnyH_take (i := 12) (v := undef) rfl (by kernel_rfl) (by kernel_rfl) (by kernel_rfl) (fun _ _ _ h => h) (Or.inr ⟨by rfl, rfl⟩) (by assumption) ?_)
                | (refine wpAnyH_take (i := 12) (v := ?_) rfl (by kernel_rfl) (by kernel_rfl) (by kernel_rfl) (fun _ _ _ h => h) (Or.inl ⟨by rfl, ?_⟩) (by assumption) ?_; rotate_left; (focus (intro wq hSw; (try dsimp only at hSw); go_simp; (try with_reducible rfl))))
                simp only [Act.put, List.getElem_toArray, List.getElem_cons_zero, List.getElem_cons_succ, List.setIfInBounds_toArray, List.set_cons_zero, List.set_cons_succ]
                first
                | (refine wpAnyH_take (i := 13) (v := undef) rfl (by kernel_rfl) (by kernel_rfl) (by kernel_rfl) (fun _ _ _ h => h) (Or.inr ⟨by rfl, rfl⟩) (by assumption) ?_)
                | (refine wpAnyH_take (i := 13) (v := ?_) rfl (by kernel_rfl) (by kernel_rfl) (by kernel_rfl) (fun _ _ _ h => h) (Or.inl ⟨by rfl, ?_⟩) (by assumption) ?_; rotate_left; (focus (intro wq hSw; (try dsimp only at hSw); go_simp; (try with_reducible rfl))))
                simp only [Act.put, List.getElem_toArray, List.getElem_cons_zero, List.getElem_cons_succ, List.setIfInBounds_toArray, List.set_cons_zero, List.set_cons_succ]
                first
                | (refine wpAnyH_take (i := 14) (v := undef) rfl (by kernel_rfl) (by kernel_rfl) (by kernel_rfl) (fun _ _ _ h => h) (Or.inr ⟨by rfl, rfl⟩) (by assumption) ?_)
                | (refine wpAnyH_take (i := 14) (v := ?_) rfl (by kernel_rfl) (by kernel_rfl) (by kernel_rfl) (fun _ _ _ h => h) (Or.inl ⟨by rfl, ?_⟩) (by assumption) ?_; rotate_left; (focus (intro wq hSw; (try dsimp only at hSw); go_simp; (try with_reducible rfl))))
                simp only [Act.put, List.getElem_toArray, List.getElem_cons_zero, List.getElem_cons_succ, List.setIfInBounds_toArray, List.set_cons_zero, List.set_cons_succ]
                first
                | (refine wpAnyH_take (i := 15) (v := undef) rfl (by kernel_rfl) (by kernel_rfl) (by kernel_rfl) (fun _ _ _ h => h) (Or.inr ⟨by rfl, rfl⟩) (by assumption) ?_)
                | (refine wpAnyH_take (i := 15) (v := ?_) rfl (by kernel_rfl) (by kernel_rfl) (by kernel_rfl) (fun _ _ _ h => h) (Or.inl ⟨by rfl, ?_⟩) (by assumption) ?_; rotate_left; (focus (intro wq hSw; (try dsimp only at hSw); go_simp; (try with_reducible rfl))))
                simp only [Act.put, List.getElem_toArray, List.getElem_cons_zero, List.getElem_cons_succ, List.setIfInBounds_toArray, List.set_cons_zero, List.set_cons_succ]
                first
                | (refine wpAnyH_take (i := 16) (v := undef) rfl (by kernel_rfl) (by kernel_rfl) (by kernel_rfl) (fun _ _ _ h => h) (Or.inr ⟨by rfl, rfl⟩) (by assumption) ?_)
                | (refine wpAnyH_take (i := 16) (v := ?_) rfl (by kernel_rfl) (by kernel_rfl) (by kernel_rfl) (fun _ _ _ h => h) (Or.inl ⟨by rfl, ?_⟩) (by assumption) ?_; rotate_left; (focus (intro wq hSw; (try dsimp only at hSw); go_simp; (try with_reducible rfl))))
                simp only [Act.put, List.getElem_toArray, List.getElem_cons_zero, List.getElem_cons_succ, List.setIfInBounds_toArray, List.set_cons_zero, List.set_cons_succ]
                first
                | (refine wpAnyH_take (i := 17) (v := undef) rfl (by kernel_rfl) (by kernel_rfl) (by kernel_rfl) (fun _ _ _ h => h) (Or.inr ⟨by rfl, rfl⟩) (by assumption) ?_)
                | (refine wpAnyH_take (i := 17) (v := ?_) rfl (by kernel_rfl) (by kernel_rfl) (by kernel_rfl) (fun _ _ _ h => h) (Or.inl ⟨by rfl, ?_⟩) (by assumption) ?_; rotate_left; (focus (intro wq hSw; (try dsimp only at hSw); go_simp; (try with_reducible rfl))))
                simp only [Act.put, List.getElem_toArray, List.getElem_cons_zero, List.getElem_cons_succ, List.setIfInBounds_toArray, List.set_cons_zero, List.set_cons_succ]
                first
                | (refine wpAnyH_take (i := 18) (v := undef) rfl (by kernel_rfl) (by kernel_rfl) (by kernel_rfl) (fun _ _ _ h => h) (Or.inr ⟨by rfl, rfl⟩) (by assumption) ?_)
                | (refine wpAnyH_take (i := 18) (v := ?_) rfl (by kernel_rfl) (by kernel_rfl) (by kernel_rfl) (fun _ _ _ h => h) (Or.inl ⟨by rfl, ?_⟩) (by assumption) ?_; rotate_left; (focus (intro wq hSw; (try dsimp only at hSw); go_simp; (try with_reducible rfl))))
                simp only [Act.put, List.getElem_toArray, List.getElem_cons_zero, List.getElem_cons_succ, List.setIfInBounds_toArray, List.set_cons_zero, List.set_cons_succ]
                first
                | (refine wpAnyH_take (i := 19) (v := undef) rfl (by kernel_rfl) (by kernel_rfl) (by kernel_rfl) (fun _ _ _ h => h) (Or.inr ⟨by rfl, rfl⟩) (by assumption) ?_)
                | (refine wpAnyH_take (i := 19) (v := ?_) rfl (by kernel_rfl) (by kernel_rfl) (by kernel_rfl) (fun _ _ _ h => h) (Or.inl ⟨by rfl, ?_⟩) (by assumption) ?_; rotate_left; (focus (intro wq hSw; (try dsimp only at hSw); go_simp; (try with_reducible rfl))))
                simp only [Act.put, List.getElem_toArray, List.getElem_cons_zero, List.getElem_cons_succ, List.setIfInBounds_toArray, List.set_cons_zero, List.set_cons_succ]
                first
                | (refine wpAnyH_take (i := 20) (v := undef) rfl (by kernel_rfl) (by kernel_rfl) (by kernel_rfl) (fun _ _ _ h => h) (Or.inr ⟨by rfl, rfl⟩) (by assumption) ?_)
                | (refine wpAnyH_take (i := 20) (v := ?_) rfl (by kernel_rfl) (by kernel_rfl) (by kernel_rfl) (fun _ _ _ h => h) (Or.inl ⟨by rfl, ?_⟩) (by assumption) ?_; rotate_left; (focus (intro wq hSw; (try dsimp only at hSw); go_simp; (try with_reducible rfl))))
                simp only [Act.put, List.getElem_toArray, List.getElem_cons_zero, List.getElem_cons_succ, List.setIfInBounds_toArray, List.set_cons_zero, List.set_cons_succ]
                first
                | (refine wpAnyH_take (i := 21) (v := undef) rfl (by kernel_rfl) (by kernel_rfl) (by kernel_rfl) (fun _ _ _ h => h) (Or.inr ⟨by rfl, rfl⟩) (by assumption) ?_)
                | (refine wpAnyH_take (i := 21) (v := ?_) rfl (by kernel_rfl) (by kernel_rfl) (by kernel_rfl) (fun _ _ _ h => h) (Or.inl ⟨by rfl, ?_⟩) (by assumption) ?_; rotate_left; (focus (intro wq hSw; (try dsimp only at hSw); go_simp; (try with_reducible rfl))))
                simp only [Act.put, List.getElem_toArray, List.getElem_cons_zero, List.getElem_cons_succ, List.setIfInBounds_toArray, List.set_cons_zero, List.set_cons_succ]
                first
                | (refine wpAnyH_take (i := 22) (v := undef) rfl (by kernel_rfl) (by kernel_rfl) (by kernel_rfl) (fun _ _ _ h => h) (Or.inr ⟨by rfl, rfl⟩) (by assumption) ?_)
                | (refine wpAnyH_take (i := 22) (v := ?_) rfl (by kernel_rfl) (by kernel_rfl) (by kernel_rfl) (fun _ _ _ h => h) (Or.inl ⟨by rfl, ?_⟩) (by assumption) ?_; rotate_left; (focus (intro wq hSw; (try dsimp only at hSw); go_simp; (try with_reducible rfl))))
                simp only [Act.put, List.getElem_toArray, List.getElem_cons_zero, List.getElem_cons_succ, List.setIfInBounds_toArray, List.set_cons_zero, List.set_cons_succ]
                refine wpAnyH_ready (rs := [23]) (by kernel_rfl) (by simp) ?_
                refine AllReadyH.cons (by simp only [List.getElem?_toArray, List.getElem?_cons_succ, List.getElem?_cons_zero]; rfl) (fun K hK => ?_) AllReadyH.nil
                (go_simp; go_at_call 17; refine (HW2.out _ (HWQ.out _ HCC.out)).mono ?_; rintro _ wd ⟨rfl, hcd⟩; have HCC := Lib.hid (HCC.out.trans' hcd); clear hcd; go_simp)
                refine hK.out _ _ ?_ (fun hHeld => ?_)
                · (first | exact HS0.out | exact HKS.out _ HCC.out)
                clear hK K
                (try simp only [Act.put, List.getElem_toArray, List.getElem_cons_zero, List.getElem_cons_succ, List.setIfInBounds_toArray, List.set_cons_zero, List.set_cons_succ])
                first
                | (refine wpAnyH_take (i := 24) (v := undef) rfl (by kernel_rfl) (by kernel_rfl) (by kernel_rfl) (fun _ _ _ h => h) (Or.inr ⟨by rfl, rfl⟩) (by assumption) ?_)
                | (refine wpAnyH_take (i := 24) (v := ?_) rfl (by kernel_rfl) (by kernel_rfl) (by kernel_rfl) (fun _ _ _ h => h) (Or.inl ⟨by rfl, ?_⟩) (by assumption) ?_; rotate_left; (focus (intro wq hSw; (try dsimp only at hSw); go_simp; (try with_reducible rfl))))
                simp only [Act.put, List.getElem_toArray, List.getElem_cons_zero, List.getElem_cons_succ, List.setIfInBounds_toArray, List.set_cons_zero, List.set_cons_succ]
                first
                | (refine wpAnyH_take (i := 25) (v := undef) rfl (by kernel_rfl) (by kernel_rfl) (by kernel_rfl) (fun _ _ _ h => h) (Or.inr ⟨by rfl, rfl⟩) (by assumption) ?_)
                | (refine wpAnyH_take (i := 25) (v := ?_) rfl (by kernel_rfl) (by kernel_rfl) (by kernel_rfl) (fun _ _ _ h => h) (Or.inl ⟨by rfl, ?_⟩) (by assumption) ?_; rotate_left; (focus (intro wq hSw; (try dsimp only at hSw); go_simp; (try with_reducible rfl))))
                simp only [Act.put, List.getElem_toArray, List.getElem_cons_zero, List.getElem_cons_succ, List.setIfInBounds_toArray, List.set_cons_zero, List.set_cons_succ]
                refine wpAnyH_take (i := 26) (v := ?_) rfl (by kernel_rfl) (by kernel_rfl) (by kernel_rfl) (fun _ _ _ h => h) (Or.inl ⟨by rfl, ?_⟩) (by assumption) ?_
                rotate_left
                · (intro wq hSw; (try dsimp only at hSw); go_simp; (try with_reducible rfl))
                simp only [Act.put, List.getElem_toArray, List.getElem_cons_zero, List.getElem_cons_succ, List.setIfInBounds_toArray, List.set_cons_zero, List.set_cons_succ]
                refine wpAnyH_take (i := 27) (v := ?_) rfl (by kernel_rfl) (by kernel_rfl) (by kernel_rfl) (fun _ _ _ h => h) (Or.inl ⟨by rfl, ?_⟩) (by assumption) ?_
                rotate_left
                · (intro wq hSw; (try dsimp only at hSw); go_simp; (try with_reducible rfl))
                simp only [Act.put, List.getElem_toArray, List.getElem_cons_zero, List.getElem_cons_succ, List.setIfInBounds_toArray, List.set_cons_zero, List.set_cons_succ]
                first
                | (refine wpAnyH_take (i := 28) (v := undef) rfl (by kernel_rfl) (by kernel_rfl) (by kernel_rfl) (fun _ _ _ h => h) (Or.inr ⟨by rfl, rfl⟩) (by assumption) ?_)
                | (refine wpAnyH_take (i := 28) (v := ?_) rfl (by kernel_rfl) (by kernel_rfl) (by kernel_rfl) (fun _ _ _ h => h) (Or.inl ⟨by rfl, ?_⟩) (by assumption) ?_; rotate_left; (focus (intro wq hSw; (try dsimp only at hSw); go_simp; (try with_reducible rfl))))
                simp only [Act.put, List.getElem_toArray, List.getElem_cons_zero, List.getElem_cons_succ, List.setIfInBounds_toArray, List.set_cons_zero, List.set_cons_succ]
                first
                | (refine wpAnyH_take (i := 29) (v := undef) rfl (by kernel_rfl) (by kernel_rfl) (by kernel_rfl) (fun _ _ _ h => h) (Or.inr ⟨by rfl, rfl⟩) (by assumption) ?_)
                | (refine wpAnyH_take (i := 29) (v := ?_) rfl (by kernel_rfl) (by kernel_rfl) (by kernel_rfl) (fun _ _ _ h => h) (Or.inl ⟨by rfl, ?_⟩) (by assumption) ?_; rotate_left; (focus (intro wq hSw; (try dsimp only at hSw); go_simp; (try with_reducible rfl))))
                simp only [Act.put, List.getElem_toArray, List.getElem_cons_zero, List.getElem_cons_succ, List.setIfInBounds_toArray, List.set_cons_zero, List.set_cons_succ]
                first
                | (refine wpAnyH_take (i := 30) (v := undef) rfl (by kernel_rfl) (by kernel_rfl) (by kernel_rfl) (fun _ _ _ h => h) (Or.inr ⟨by rfl, rfl⟩) (by assumption) ?_)
                | (refine wpAnyH_take (i := 30) (v := ?_) rfl (by kernel_rfl) (by kernel_rfl) (by kernel_rfl) (fun _ _ _ h => h) (Or.inl ⟨by rfl, ?_⟩) (by assumption) ?_; rotate_left; (focus (intro wq hSw; (try dsimp only at hSw); go_simp; (try with_reducible rfl))))
                simp only [Act.put, List.getElem_toArray, List.getElem_cons_zero, List.getElem_cons_succ, List.setIfInBounds_toArray, List.set_cons_zero, List.set_cons_succ]
                refine wpAnyH_ready (rs := [31]) (by kernel_rfl) (by simp) ?_
                refine AllReadyH.cons (by simp only [List.getElem?_toArray, List.getElem?_cons_succ, List.getElem?_cons_zero]; rfl) (fun K hK => ?_) AllReadyH.nil
                go_simp
                refine hK.out _ _ ?_ (fun hHeld => ?_)
                · (first | exact HS0.out | exact HKS.out _ HCC.out)
                clear hK K
                (try simp only [Act.put, List.getElem_toArray, List.getElem_cons_zero, List.getElem_cons_succ, List.setIfInBounds_toArray, List.set_cons_zero, List.set_cons_succ])
                first
                | (refine wpAnyH_take (i := 32) (v := undef) rfl (by kernel_rfl) (by kernel_rfl) (by kernel_rfl) (fun _ _ _ h => h) (Or.inr ⟨by rfl, rfl⟩) (by assumption) ?_)
                | (refine wpAnyH_take (i := 32) (v := ?_) rfl (by kernel_rfl) (by kernel_rfl) (by kernel_rfl) (fun _ _ _ h => h) (Or.inl ⟨by rfl, ?_⟩) (by assumption) ?_; rotate_left; (focus (intro wq hSw; (try dsimp only at hSw); go_simp; (try with_reducible rfl))))
                simp only [Act.put, List.getElem_toArray, List.getElem_cons_zero, List.getElem_cons_succ, List.setIfInBounds_toArray, List.set_cons_zero, List.set_cons_succ]
                first
                | (refine wpAnyH_take (i := 33) (v := undef) rfl (by kernel_rfl) (by kernel_rfl) (by kernel_rfl) (fun _ _ _ h => h) (Or.inr ⟨by rfl, rfl⟩) (by assumption) ?_)
                | (refine wpAnyH_take (i := 33) (v := ?_) rfl (by kernel_rfl) (by kernel_rfl) (by kernel_rfl) (fun _ _ _ h => h) (Or.inl ⟨by rfl, ?_⟩) (by assumption) ?_; rotate_left; (focus (intro wq hSw; (try dsimp only at hSw); go_simp; (try with_reducible rfl))))
                simp only [Act.put, List.getElem_toArray, List.getElem_cons_zero, List.getElem_cons_succ, List.setIfInBounds_toArray, List.set_cons_zero, List.set_cons_succ]
                refine wpAnyH_done (by kernel_rfl) ?_ _
                change wpList _ _ _ _ _ _
                simp only [List.drop_succ_cons, List.drop_zero]
                have HCX := Lib.hid ((HC8.out.trans' HWD.out).trans' HCC.out)
                clear HS0 HKS hHeld HC8 HWD HCC
                go_wp2_with fail
                go_roundw
                case rel => exact ⟨i + 1, by have := HLT.out; omega, rfl, HCX⟩
                case measure => have := HLT.out; simp [intOf, w64]; omega
            · have hie : i = 8 := by omega
              clear hlt hi
              subst hie
              go_wp2_with fail
              go_ret
              exact ⟨rfl, (HHP.out.heap.chg.trans' HCR.out).below (Nat.le_refl _) (fun _ x => x.elim)⟩
end Go.Proofs.YtjianickjahdnaaDoor
namespace Go.Proofs.YtjianickjahdnaaDoor
open Go.RowKit Go.ChangeShapes
set_option linter.unusedVariables false
set_option linter.unusedSimpArgs false

theorem starE : "*" ++ "errors.errorString" = "*errors.errorString" := by decide
theorem rowE (u : TypeId) (h : Tryd.prog.typeName? 3 u = some "*errors.errorString") : u = 146 :=
  typeName_ptr_named (nm := "errors.errorString") (by rw [starE]; kernel_rfl) (by kernel_rfl) (by decide) u (by rw [starE]; exact h)
theorem pow_datum : (Rows.laid_internal_strconv_uint64pow10 : DataW Unit) = Lib.tabData .u64 Lib.pow10Tab := by kernel_rfl
set_option maxRecDepth 100000 in
theorem tabs_of_laid {W : World} (h : laidMetH Tryd.prog Rows.heapBeginsRow.laid W) : Tabs W := by
  rw [MakeChecks.laidMetH_plain _ _ _ (by kernel_rfl)] at h
  have h1 : laidMet Tryd.prog (("internal/strconv.uint64pow10", Rows.laid_internal_strconv_uint64pow10) :: _) W := h.tail.tail
  rw [pow_datum] at h1
  obtain ⟨a1, t1, hv1, -⟩ := laid_sentinel (g := (Tryd.prog.globalNamed "strconv.ErrRange").getD 0) h1.tail.tail (by kernel_rfl) (by kernel_rfl) Tryd.underlying97 rowE Tryd.underlying146 Tryd.underlying148 rfl rfl Tryd.underlying9 (by kernel_rfl) (by kernel_rfl)
  obtain ⟨a0, t0, hv0, -⟩ := laid_sentinel (g := (Tryd.prog.globalNamed "strconv.ErrSyntax").getD 0) h1.tail.tail.tail (by kernel_rfl) (by kernel_rfl) Tryd.underlying97 rowE Tryd.underlying146 Tryd.underlying148 rfl rfl Tryd.underlying9 (by kernel_rfl) (by kernel_rfl)
  exact ⟨Lib.tabIs_of_head (g := (Tryd.prog.globalNamed "internal/strconv.uint64pow10").getD 0) (by kernel_rfl) (by kernel_rfl) Tryd.underlying138 Tryd.underlying108 (by kernel_rfl) (by kernel_rfl) h1, ⟨_, _, hv0⟩, ⟨_, _, hv1⟩⟩
end Go.Proofs.YtjianickjahdnaaDoor
