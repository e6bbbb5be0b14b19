/-
  Marks: the weak pass.
-/
import Derived.Test.YthiiehanlconeaaDoorMkt
import Derived.Test.YthiiehanlconeaaDoorRft
namespace Go.Proofs.YthiiehanlconeaaDoor
open Go.RowKit
set_option linter.unusedVariables false
set_option linter.unusedSimpArgs false

def noVal : Val := ⟨0, 0, ⟨#[]⟩, 0⟩
def pairsM (d : List Val) : List (Val × Val) := (List.range (d.length / 2)).map fun q => (d.getD (2 * q) noVal, d.getD (2 * q + 1) noVal)
def wkV (hp : Hp) (K : List Nat) (p : Val × Val) : List Nat := if p.2.kind = 5 ∧ p.1.kind = 5 ∧ hasK hp K p.1.ref = true then addK hp K p.2.ref else K
def weakObj (hp : Hp) (K : List Nat) (x : Obj) : List Nat := if x.kind = 5 then (pairsM x.data).foldl (wkV hp) K else K
def weakS (hp : Hp) (K : List Nat) (s : Nat) : List Nat := weakObj hp K (hp.slots.getD s noSlt).obj
def weakM (hp : Hp) (K : List Nat) : List Nat := K.foldl (weakS hp) K
def InI (h : Int) : Prop := -9223372036854775808 ≤ h ∧ h ≤ 9223372036854775807
/-- Objects of a size that is walked, with handles that are numbers of the machine. -/
structure HpOk (hp : Hp) : Prop where
  few : hp.slots.length ≤ 100000
  obj : ∀ s (h : s < hp.slots.length), ObjOk hp.slots[s].obj
  refs : ∀ s (h : s < hp.slots.length), ∀ r ∈ refsM hp.slots[s].obj, InI r
  data : ∀ s (h : s < hp.slots.length), ∀ v ∈ hp.slots[s].obj.data, InI v.ref
theorem addK_ok {hp : Hp} {K : List Nat} (h : KOk hp K) (r : Int) : KOk hp (addK hp K r) := by
  unfold addK
  cases hs : slotOf hp r with
  | none => exact h
  | some i =>
    obtain ⟨h1, h2, -⟩ := slotOf_lt hs
    exact h.add h1 h2
theorem wkV_ok {hp : Hp} {K : List Nat} (h : KOk hp K) (p : Val × Val) : KOk hp (wkV hp K p) := by
  unfold wkV
  split
  · exact addK_ok h _
  · exact h
theorem slotOf_handle {hp : Hp} {s : Nat} (hs : s < hp.slots.length) (hu : (hp.slots.getD s noSlt).used = true) (hl : hp.slots.length ≤ 100000) : slotOf hp (handleM hp.base hp.stride (s : Nat)) = some s := by
  unfold slotOf
  rw [index_of_handle _ _ (by omega)]
  rw [Int.toNat_natCast, if_pos ⟨by omega, hs, hu⟩]
theorem hpObj {w : World} {b o : Nat} {hp : Hp} {F : List Nat} {a : Option Addr} {m cap i : Nat} (H : Here hpR w b o hp F) (hv : w.cell? ⟨b, o + 2, none⟩ = some (.slice a m cap)) (hi : i < hp.slots.length) :
    ∃ g off, a = some ⟨g, off, none⟩ ∧ objPtr (.slice a m cap) (some i) = some ⟨g, off + i * 11 + 1, none⟩ ∧ ∃ G, Here objR w g (off + i * 11 + 1) hp.slots[i].obj G := by
  obtain ⟨g, off, rfl, G, h1, -⟩ := hpSlot H hv hi
  obtain ⟨G2, h2, -⟩ := h1.field sltR_obj (by show 0 < 11; decide)
  exact ⟨g, off, rfl, rfl, G2, h2⟩
theorem pairs_take {d : List Val} {q : Nat} (h : q < d.length / 2) : (pairsM d).take (q + 1) = (pairsM d).take q ++ [(d.getD (2 * q) noVal, d.getD (2 * q + 1) noVal)] := by
  have hl : q < (pairsM d).length := by unfold pairsM; simpa using h
  rw [List.take_succ_eq_append_getElem hl]
  congr 1
  unfold pairsM
  simp
theorem pairs_all (d : List Val) : (pairsM d).take (d.length / 2) = pairsM d := List.take_of_length_le (by unfold pairsM; simp)
theorem weakS_take {hp : Hp} {K K0 : List Nat} {i : Nat} (h : i < K.length) : (K.take (i + 1)).foldl (weakS hp) K0 = weakS hp ((K.take i).foldl (weakS hp) K0) K[i] := by
  rw [List.take_succ_eq_append_getElem h, List.foldl_append]
  rfl

/-- The list as it was when the pass began. -/
def SnapV (w : World) (bm : Nat) (F : List Nat) (v : Value) (l : List Int) : Prop := ∃ p c, v = .slice p l.length c ∧ (l = [] ∨ ∃ g off, p = some ⟨g, off, none⟩ ∧ Snap w bm F g off l.length ∧ ∀ j (h : j < l.length), w.cell? ⟨g, off + j, none⟩ = some (.int .i64 l[j]))
theorem SnapV.step {w w' : World} {bm : Nat} {F F' : List Nat} {v : Value} {l : List Int} (h : SnapV w bm F v l) (hs : Snaps w w' bm F F') : SnapV w' bm F' v l := by
  obtain ⟨p, c, rfl, h | ⟨g, off, rfl, h1, h2⟩⟩ := h
  · exact ⟨p, c, rfl, .inl h⟩
  · obtain ⟨k1, k2⟩ := hs g off _ h1
    exact ⟨_, c, rfl, .inr ⟨g, off, rfl, k1, fun j hj => k2 j _ hj (h2 j hj)⟩⟩
theorem SnapV.start {w : World} {bm : Nat} {m : Mk} {F : List Nat} (H : Here mkR w bm 0 m F) {v : Value} (hv : w.cell? ⟨bm, 2, none⟩ = some v) : SnapV w bm F v m.list := by
  obtain ⟨cs, ⟨v1, v2, F1, F2, rfl, h1, h2, rfl⟩, hc⟩ := H.cell
  obtain ⟨x2, e2, r2, rfl⟩ := row_flat.1 h2
  obtain rfl : v2 = x2 := by simpa using e2
  have c2 := hc 2 _ rfl
  simp only [Nat.zero_add] at c2
  rw [hv] at c2
  cases c2
  obtain ⟨a, c, rfl, -⟩ := r2.slice
  refine ⟨a, c, rfl, ?_⟩
  by_cases hl : m.list = []
  · exact .inl hl
  · have hpos : 0 < m.list.length := List.length_pos_iff.2 hl
    obtain ⟨g, off, cap, e, -, -⟩ := r2.addr hpos
    cases e
    refine .inr ⟨g, off, rfl, .inl ⟨_, _, hv, Nat.le_refl _⟩, fun j hj => r2.cellAt j _ ?_⟩
    rw [flatMap_one]
    simp [hj]

set_option maxHeartbeats 6400000 in
set_option maxRecDepth 100000 in
theorem weak_any (w0 w : World) (bm bh : Nat) (hp : Hp) (Fh : List Nat) (K : List Nat) (F : List Nat) (HH : Here hpR w0 bh 0 hp Fh) (HO : Own mkR w0 w bm 0 (mkOf bh hp K) F) (HK : KOk hp K) (hok : HpOk hp) :
    Calls Tryd.prog 25 #[.pointer (some ⟨bm, 0, none⟩)] w fun e w' => e = .returned (.tuple #[]) ∧ ∃ F', Own mkR w0 w' bm 0 (mkOf bh hp (weakM hp K)) F' ∧ KOk hp (weakM hp K) ∧ Step w w' bm 0 3 F F' := by
  obtain ⟨m0, -, ⟨pl, cl, m2⟩⟩ := mkCells HO.here
  have hlk : (mkOf bh hp K).list = K.map fun i => handleM hp.base hp.stride (i : Nat) := rfl
  have hll : (mkOf bh hp K).list.length = K.length := by rw [hlk]; simp
  have hsv0 := SnapV.start HO.here m2
  rw [hll] at m2 hsv0
  have HL0 := Lib.hid (Nat.le_trans (good_len _ _ HK.good) hok.few)
  have hln : (K.length : Int) ≤ 9223372036854775807 := by have := HL0.out; omega
  have HHH := Lib.hid HH
  have HOK := Lib.hid hok
  have HKK := Lib.hid HK
  have HOO := Lib.hid HO
  have HSV := Lib.hid hsv0
  obtain ⟨-, -, ⟨ah, caph, ch2⟩, -⟩ := hpCells HH
  have HCH2 := Lib.hid ch2
  clear HH HO HK hok hsv0 hlk hll ch2
  go_enter Tryd.func25, Tryd.ntmps25
  go_wp2_with fail
  go_loopw [3, 4, 5, 6, 12] (fun _ _ _ _ u12 wr => ∃ (i : Nat) (F' : List Nat), i ≤ K.length ∧ u12 = .int .i64 i ∧ Hid (Own mkR w0 wr bm 0 (mkOf bh hp ((K.take i).foldl (weakS hp) K)) F') ∧ Hid (KOk hp ((K.take i).foldl (weakS hp) K)) ∧ Hid (SnapV wr bm F' (.slice pl K.length cl) (mkOf bh hp K).list) ∧ Hid (Step w wr bm 0 3 F F')) (fun _ _ _ _ u12 _ => K.length - (intOf u12).toNat)
  case atStart => exact ⟨0, F, by omega, rfl, HOO, HKK, HSV, Lib.hid (Step.refl _ _ _ _ _)⟩
  case round =>
    obtain ⟨i, F', hi, rfl, HOr, HKr, HSr, HTr⟩ := hrel
    clear m0 m2
    by_cases hlt : i < K.length
    · have h0 : (0 : Int) ≤ (i : Int) := by omega
      have h1 : (i : Int) < (K.length : Int) := by omega
      have hls : (mkOf bh hp K).list.length = K.length := by show (K.map _).length = _; simp
      obtain ⟨p, c, hv, hsv⟩ := HSr.out
      rw [hls] at hv
      cases hv
      obtain ⟨g, off, rfl, -, hc⟩ : ∃ g off, pl = some ⟨g, off, none⟩ ∧ True ∧ ∀ j (h : j < (mkOf bh hp K).list.length), wr.cell? ⟨g, off + j, none⟩ = some (.int .i64 (mkOf bh hp K).list[j]) := by
        rcases hsv with h | ⟨g, off, h1, -, h3⟩
        · rw [h] at hls
          simp at hls
          omega
        · exact ⟨g, off, h1, trivial, h3⟩
      have c0 := hc i (by rw [hls]; exact hlt)
      have hge : ∀ (h : i < (mkOf bh hp K).list.length), (mkOf bh hp K).list[i] = handleM hp.base hp.stride (K[i] : Nat) := fun h => by
        show (K.map fun i => handleM hp.base hp.stride (i : Nat))[i]'(by simpa using hlt) = _
        simp
      rw [hge] at c0
      have hKi := List.getElem_mem hlt
      have hs := HKK.out.good.lt _ hKi
      have hus := HKK.out.used _ hKi
      have hso := slotOf_handle hs hus HOK.out.few
      have hhi := handle_in hp.base hp.stride (i := K[i]) (by have := HOK.out.few; omega)
      have HT := Lib.hid (weakS_take (hp := hp) (K0 := K) hlt)
      have w64 : IntKind.i64.wrap ((i : Int) + 1) = ((i + 1 : Nat) : Int) := IntWalk.i64_in _ (by omega)
      have HLT := Lib.hid hlt
      have HNX := Lib.hid (show i + 1 ≤ K.length from hlt)
      generalize (K.take i).foldl (weakS hp) K = K1 at *
      generalize K[i] = s at *
      have hA := hat_any wr bh 0 hp Fh (handleM hp.base hp.stride (s : Nat)) (.slice ah hp.slots.length caph) (HHH.out.still HOr.out.chg) (HOr.out.chg.cell HCH2.out) (by omega)
      obtain ⟨gh, oh, rfl, hptr, Go_, hobj⟩ := hpObj HHH.out HCH2.out hs
      rw [hso, hptr] at hA
      obtain ⟨vp, ve, vd, vs, HOC⟩ := objOpen hobj
      have HOBC := Lib.hid HOC
      have HDK := Lib.hid (HOK.out.obj s hs)
      have HDD := Lib.hid (HOK.out.data s hs)
      have hws : weakS hp K1 s = weakObj hp K1 hp.slots[s].obj := by
        unfold weakS
        rw [List.getD_eq_getElem?_getD, List.getElem?_eq_getElem hs]
        rfl
      rw [hws] at HT
      have HA := Lib.hid hA
      obtain ⟨m0, -⟩ := mkCells HOr.out.here
      change wr.cell? ⟨bm, 0, none⟩ = some (.pointer (some ⟨bh, 0, none⟩)) at m0
      clear hc hsv hge hKi hus hso hhi hA hptr hobj hws HOC hlt hi
      generalize hp.slots[s].obj = x at *
      clear hs
      obtain ⟨ad, cd, rfl, -⟩ := HOBC.out.rd.slice
      go_upto_region 4 with (go_at_call 24; refine HA.out.mono ?_; rintro e wa ⟨rfl, hca⟩; have k0 := (HOr.out.chg.trans' hca).cell HOBC.out.c0; have HCA := Lib.hid hca; clear hca)
      clear m0 c0 h0 h1 HA
      have HO1 := Lib.hid (HOr.out.still HCA.out)
      have HS1 := Lib.hid (HSr.out.step (Snaps.still HCA.out))
      have HT1 := Lib.hid (HTr.out.trans (Step.ofChg HCA.out))
      clear HOr HSr
      by_cases hk5 : x.kind = 5
      · have hW : weakObj hp K1 x = (pairsM x.data).foldl (wkV hp) K1 := if_pos hk5
        rw [hW] at HT
        rw [hk5] at k0
        clear hW hk5
        go_upto_region 5 with fail
        clear k0 HCA
        go_wp2_with fail
        go_loopw [5, 6] (fun u5 _ wq => ∃ (q j : Nat) (F2 : List Nat), j = 2 * q ∧ q ≤ x.data.length / 2 ∧ u5 = .int .i64 j ∧ Hid (Own mkR w0 wq bm 0 (mkOf bh hp (((pairsM x.data).take q).foldl (wkV hp) K1)) F2) ∧ Hid (KOk hp (((pairsM x.data).take q).foldl (wkV hp) K1)) ∧ Hid (SnapV wq bm F2 (.slice (some ⟨g, off, none⟩) K.length cl) (mkOf bh hp K).list) ∧ Hid (Step w wq bm 0 3 F F2)) (fun u5 _ _ => x.data.length + 1 - (intOf u5).toNat)
        case atStart => exact ⟨0, 0, F', rfl, by omega, rfl, HO1, HKr, HS1, HT1⟩
        case round =>
          obtain ⟨q, j, F2, hj, hq, rfl, HOq, HKq, HSq, HTq⟩ := hrel
          have cd4 := HOq.out.chg.cell HOBC.out.c4
          have HDL := Lib.hid HDK.out.data
          have wj1 : IntKind.i64.wrap ((j : Int) + 1) = ((j + 1 : Nat) : Int) := IntWalk.i64_in _ (by have := HDL.out; omega)
          have wj2 : IntKind.i64.wrap ((j : Int) + 2) = ((j + 2 : Nat) : Int) := IntWalk.i64_in _ (by have := HDL.out; omega)
          by_cases hlt2 : q < x.data.length / 2
          · have hr := HOBC.out.rd.chg HOq.out.chg (fun _ _ x => x)
            obtain ⟨gd, od, cap', hv, -, -⟩ := hr.addr (by omega)
            cases hv
            obtain ⟨j1, hj1⟩ : ∃ j1, j1 = j + 1 := ⟨_, rfl⟩
            have hjl : j < x.data.length := by omega
            have hjl1 : j1 < x.data.length := by omega
            have HPT := Lib.hid (pairs_take hlt2)
            have g0 : x.data.getD (2 * q) noVal = x.data[j] := by rw [← hj, List.getD_eq_getElem?_getD, List.getElem?_eq_getElem hjl]; rfl
            have g1 : x.data.getD (2 * q + 1) noVal = x.data[j1] := by rw [← hj, ← hj1, List.getD_eq_getElem?_getD, List.getElem?_eq_getElem hjl1]; rfl
            rw [g0, g1] at HPT
            have HFD : Hid (((pairsM x.data).take (q + 1)).foldl (wkV hp) K1 = wkV hp (((pairsM x.data).take q).foldl (wkV hp) K1) (x.data[j], x.data[j1])) := Lib.hid (by rw [HPT.out, List.foldl_append]; rfl)
            have HR1 := Lib.hid (HDD.out _ (List.getElem_mem hjl))
            have HR2 := Lib.hid (HDD.out _ (List.getElem_mem hjl1))
            have hcell : ∀ jj (hjj : jj < x.data.length) t u, x.data[jj].cells[t]? = some u → t < 4 → wr.cell? ⟨gd, od + jj * 4 + t, none⟩ = some u := fun jj hjj t u hu ht => by
              rw [Nat.add_assoc]
              exact hr.cellAt (jj * 4 + t) u (by rw [flat_get _ 4 Val.len x.data jj t hjj ht]; exact hu)
            have a0 := hcell j hjl 0 _ rfl (by omega)
            have a3 := hcell j hjl 3 _ rfl (by omega)
            have b0 := hcell j1 hjl1 0 _ rfl (by omega)
            have b1 := hcell j1 hjl1 1 _ rfl (by omega)
            have b2 := hcell j1 hjl1 2 _ rfl (by omega)
            have b3 := hcell j1 hjl1 3 _ rfl (by omega)
            rw [Nat.add_zero] at a0 b0
            rw [← hj1] at wj1
            have i0 : (0 : Int) ≤ (j : Int) := by omega
            have i1 : (j : Int) < (x.data.length : Int) := by omega
            have i2 : (0 : Int) ≤ (j1 : Int) := by omega
            have i3 : (j1 : Int) < (x.data.length : Int) := by omega
            have HJ := Lib.hid hj
            have HJ1 := Lib.hid hj1
            have HQ := Lib.hid hlt2
            clear HPT g0 g1 hcell hr hq hj hj1
            generalize ((pairsM x.data).take q).foldl (wkV hp) K1 = Kq at *
            generalize x.data[j] = vk at *
            generalize x.data[j1] = vv at *
            clear hjl hjl1 hlt2
            go_upto_region 9 with fail
            have hb6 := alloc_block wr (.cells #[.int .i64 vv.kind, .int .i64 vv.int, .string vv.str, .int .i64 vv.ref] 38)
            have hc6 := Chg.alloc (fun _ => False) wr (.cells #[.int .i64 vv.kind, .int .i64 vv.int, .string vv.str, .int .i64 vv.ref] 38)
            have HO8 := Lib.hid (HOq.out.still hc6)
            have HS8 := Lib.hid (HSq.out.step (Snaps.still hc6))
            have HT8 := Lib.hid (HTq.out.trans (Step.ofChg hc6))
            have A0 := hc6.cell a0
            have A3 := hc6.cell a3
            have CD4 := hc6.cell cd4
            clear a0 a3 b0 b1 b2 b3 cd4 HOq HSq hc6
            generalize wr.alloc (.cells #[.int .i64 vv.kind, .int .i64 vv.int, .string vv.str, .int .i64 vv.ref] 38) = W8 at *
            generalize wr.heap.size = b6 at *
            have HB6 := Lib.hid hb6
            have t0 := cell_of_block (i := 0) hb6 rfl
            have t3 := cell_of_block (i := 3) hb6 rfl
            simp only [List.getElem_toArray, List.getElem_cons_zero, List.getElem_cons_succ] at t0 t3
            clear hb6
            generalize hcb : decide (vv.kind = 5 ∧ vk.kind = 5 ∧ hasK hp Kq vk.ref = true) = cb
            have HCB := Lib.hid hcb
            clear hcb
            go_cut [70] from 27 to 74 (fun u70 wx => u70 = .bool cb ∧ Hid (Chg (fun _ => False) W8 wx))
            case first =>
              cases h1 : vv.kind == 5
              · have hh : cb = false := by rw [← HCB.out]; simp at h1; simp [h1]
                go_wp2_with fail
                go_meet
                exact ⟨by rw [hh], Lib.hid (Chg.refl _ _)⟩
              · cases h2 : vk.kind == 5
                · have hh : cb = false := by rw [← HCB.out]; simp at h2; simp [h2]
                  go_wp2_with fail
                  go_meet
                  exact ⟨by rw [hh], Lib.hid (Chg.refl _ _)⟩
                · have hh : cb = hasK hp Kq vk.ref := by rw [← HCB.out]; simp at h1 h2; simp [h1, h2]
                  have HHS := Lib.hid (has_any w0 W8 bm bh hp Fh Kq vk.ref HHH.out ⟨⟨F2, HO8.out⟩, HKq.out⟩ HR1.out)
                  have HHHH := Lib.hid hh
                  clear hh
                  go_wp2_with (first | (go_at_call 31; refine HHS.out.mono ?_; rintro e wh ⟨rfl, hch⟩))
                  go_meet
                  exact ⟨by rw [HHHH.out], Lib.hid hch⟩
            case rest =>
            obtain ⟨rfl, HCX⟩ := hcut
            have t3' := HCX.out.cell t3
            clear t0 t3 A0 A3 CD4 HB6
            have HO9 := Lib.hid (HO8.out.still HCX.out)
            have HS9 := Lib.hid (HS8.out.step (Snaps.still HCX.out))
            have HT9 := Lib.hid (HT8.out.trans (Step.ofChg HCX.out))
            clear HO8 HS8 HCX
            cases cb
            · have HW : Hid (wkV hp Kq (vk, vv) = Kq) := Lib.hid (by have := HCB.out; simp only [decide_eq_false_iff_not] at this; unfold wkV; rw [if_neg this])
              go_wp2_with fail
              go_roundw
              case rel => exact ⟨q + 1, j + 2, F2, by have := HJ.out; omega, HQ.out, rfl, by rw [HFD.out, HW.out]; exact HO9, by rw [HFD.out, HW.out]; exact HKq, HS9, HT9⟩
              case measure => have := HJ.out; have := HQ.out; simp [intOf, wj2]; omega
            · have HW : Hid (wkV hp Kq (vk, vv) = addK hp Kq vv.ref) := Lib.hid (by have := HCB.out; simp only [decide_eq_true_eq] at this; unfold wkV; rw [if_pos this])
              have HAD := Lib.hid (madd_any w0 wc bm bh hp Fh Kq vv.ref HHH.out F2 HO9.out HKq.out HR2.out HOK.out.few)
              go_wp2_with (first | (go_at_call 22; refine HAD.out.mono ?_; rintro e wh ⟨rfl, F3, ho3, hk3, hst3, hs3⟩))
              go_roundw
              case rel => exact ⟨q + 1, j + 2, F3, by have := HJ.out; omega, HQ.out, rfl, by rw [HFD.out, HW.out]; exact Lib.hid ho3, by rw [HFD.out, HW.out]; exact Lib.hid hk3, Lib.hid (HS9.out.step hs3), Lib.hid (HT9.out.trans hst3)⟩
              case measure => have := HJ.out; have := HQ.out; simp [intOf, wj2]; omega
          · have hqe : q = x.data.length / 2 := by omega
            have HPA := Lib.hid (pairs_all x.data)
            rw [hqe] at HOq HKq
            rw [HPA.out, ← HT.out] at HOq HKq
            have i3 : ¬ ((j + 1 : Nat) : Int) < (x.data.length : Int) := by omega
            clear hqe hlt2 hq hj
            go_wp2_with fail
            go_roundw
            case rel => exact ⟨i + 1, F2, HNX.out, rfl, HOq, HKq, HSq, HTq⟩
            case measure => have := HLT.out; simp [intOf, w64]; omega
      · have hW : weakObj hp K1 x = K1 := if_neg hk5
        rw [hW] at HT
        rw [← HT.out] at HO1 HKr
        clear hW
        go_wp2_with fail
        go_roundw
        case rel => exact ⟨i + 1, F', HNX.out, rfl, HO1, HKr, HS1, HT1⟩
        case measure => have := HLT.out; simp [intOf, w64]; omega
    · have hie : i = K.length := by omega
      subst hie
      rw [List.take_length] at HOr HKr
      clear hlt hi
      go_wp2_with fail
      go_end0
      exact ⟨rfl, F', HOr.out, HKr.out, HTr.out⟩
end Go.Proofs.YthiiehanlconeaaDoor
