/-
  collect.Live: its walk.
-/
import Derived.Test.YthiiehanlconeaaDoorLva
import Derived.Shelf.Abstract
namespace Go.Proofs.YthiiehanlconeaaDoor
open Go.RowKit
set_option linter.unusedVariables false
set_option linter.unusedSimpArgs false

/-- The further references: none, or a function of the law's. -/
def EdgesOk (w0 : World) (ve : Value) (em : Int → List Int) : Prop :=
  (ve = .nilFunc ∧ em = fun _ => []) ∨
  False
theorem bodyM_eq {fn : Func} {R : Ending → World → Prop} {a : Act} {w : World} {n : Nat} {P : Program} : bodyPostM Fence.wide n P fn R .ret a w = LeavesInM Fence.wide n P fn a.tmps R a.defers .returning w := rfl

set_option maxHeartbeats 12800000 in
set_option maxRecDepth 100000 in
theorem live_any (w0 : World) (bh : Nat) (hp : Hp) (Fh : List Nat) (vr ve : Value) (roots : List Int) (em : Int → List Int) (HH : Here hpR w0 bh 0 hp Fh) (hok : HpOk hp)
    (hr : RowAt w0 3 1 vr roots.length (intC roots)) (hrl : roots.length ≤ 1000000) (hri : ∀ r ∈ roots, InI r) (hE : EdgesOk w0 ve em) :
    Calls Tryd.prog 10 #[.pointer (some ⟨bh, 0, none⟩), vr, ve] w0 fun e w' => ∃ v', e = .returned v' ∧
      OutI w0 w' v' ((liveM hp em hp.slots.length hp.slots.length (addsK hp [] roots) 0).map fun i => handleM hp.base hp.stride (i : Nat)) := by
  refine (callsIn_wide (n := 9)).1 (callsIn_of_wp_marks Tryd.func10 rfl trivial ?_)
  refine (wpIn_wide (n := 9) (P := Tryd.prog)).2 ?_
  obtain ⟨ar, cr, rfl, -⟩ := hr.slice
  have HHH := Lib.hid HH
  have HOK := Lib.hid hok
  have HR := Lib.hid hr
  have HRI := Lib.hid hri
  have HEE := Lib.hid hE
  have HMK := Lib.hid (marked_any w0 bh hp Fh HH hok.few)
  have hln : (roots.length : Int) ≤ 9223372036854775807 := by omega
  obtain ⟨-, -, ⟨ah, caph, ch2⟩, -⟩ := hpCells HH
  have HCH2 := Lib.hid ch2
  clear HH hok hr hri hE ch2 hrl
  simp only [Tryd.ntmps10, List.size_toArray, List.length_cons, List.length_nil, Nat.reduceAdd, Nat.reduceSub, Array.replicate_succ, Array.replicate_zero, List.push_toArray, List.append_toArray, List.nil_append, List.cons_append]
  go_upto_region 2 with (first | (go_at_call 21; refine HMK.out.mono ?_; rintro e w1 ⟨bm, rfl, HMI⟩))
  have LS0 : ∃ F, LS w0 (w1.alloc (.cells #[.pointer (some ⟨bm, 0, none⟩)] 69)) w1.heap.size bm bh hp [] F [] := by
    obtain ⟨F, ho⟩ := HMI.own
    have hl := ho.here.lt
    exact ⟨F, ho.still (Chg.alloc _ _ _), HMI.good, alloc_block _ _, fun x => by have := hl.2 _ x; omega, ho.chg.size, DefsOk.nil _ _⟩
  obtain ⟨F0, LS0⟩ := LS0
  have HL0 := Lib.hid LS0
  clear LS0 HMI HMK
  generalize w1.alloc (.cells #[.pointer (some ⟨bm, 0, none⟩)] 69) = w2 at *
  generalize w1.heap.size = bx at *
  go_wp2_with fail
  go_loopw [9, 18] (fun _ u18 wr => ∃ (k : Nat) (F : List Nat), k ≤ roots.length ∧ u18 = .int .i64 k ∧ Hid (LS w0 wr bx bm bh hp (addsK hp [] (roots.take k)) F [])) (fun _ u18 _ => roots.length - (intOf u18).toNat)
  case atStart => exact ⟨0, F0, by omega, rfl, HL0⟩
  case round =>
    obtain ⟨k, F, hk, rfl, HL⟩ := hrel
    clear HL0
    by_cases hlt : k < roots.length
    · have h0 : (0 : Int) ≤ (k : Int) := by omega
      have h1 : (k : Int) < (roots.length : Int) := by omega
      have hr2 := HR.out.chg HL.out.own.chg (fun _ _ x => x)
      obtain ⟨gr, oR, cR, hv, -, -⟩ := hr2.addr (by omega)
      cases hv
      have c0 := hr2.cellAt k (.int .i64 roots[k]) (by simp [intC, hlt])
      have w64 : IntKind.i64.wrap ((k : Int) + 1) = ((k + 1 : Nat) : Int) := IntWalk.i64_in _ (by omega)
      have HT : Hid (addsK hp [] (roots.take (k + 1)) = addK hp (addsK hp [] (roots.take k)) roots[k]) := Lib.hid (by rw [List.take_succ_eq_append_getElem hlt, addsK_snoc])
      have HLT := Lib.hid hlt
      have HNX := Lib.hid (show k + 1 ≤ roots.length from hlt)
      have HIN := Lib.hid (HRI.out _ (List.getElem_mem hlt))
      have cb := HL.out.cell
      clear hk hr2
      generalize roots[k] = z at *
      clear hlt
      have HAD := Lib.hid (madd_any w0 wr bm bh hp Fh _ z HHH.out F HL.out.own HL.out.ok HIN.out HOK.out.few)
      go_wp2_with (first | (go_at_call 22; refine HAD.out.mono ?_; rintro e wa ⟨rfl, F2, ho2, hk2, hs2, -⟩))
      go_roundw
      case rel => exact ⟨k + 1, F2, HNX.out, rfl, by rw [HT.out]; exact Lib.hid (HL.out.step ho2 hk2 hs2)⟩
      case measure => have := HLT.out; simp [intOf, w64]; omega
    · have hk2 : k = roots.length := by omega
      subst hk2
      rw [List.take_length] at HL
      clear hlt hk
      obtain ⟨T, hT⟩ : ∃ T, liveM hp em hp.slots.length hp.slots.length (addsK hp [] roots) 0 = T := ⟨_, rfl⟩
      have HTT := Lib.hid hT
      have HTE := Lib.hid hT
      clear hT
      go_wp2_with fail
      refine wp_loop (fun a' w' => ∃ (u1 u3 u4 u5 u6 u8 u9 u11 u12 u13 u14 u15 u16 u17 u18 u19 u20 u21 u22 u23 u24 u25 u26 u27 u28 u29 u30 u31 u32 u33 u34 u35 u36 u37 u38 u39 u40 u41 u42 u43 u44 u45 u46 u47 u48 u49 u50 u51 u52 u53 u54 u55 u56 u57 u58 u59 u60 u61 u62 u63 u64 u65 u66 u67 u68 u69 u70 u71 u72 u73 u74 u75 u76 u77 u78 u79 u80 u81 : Value) (ds : List Deferred) (K : List Nat) (F : List Nat) (p f : Nat), (p ≤ K.length ∧ hp.slots.length - p ≤ f ∧ Hid (liveM hp em hp.slots.length f K p = T) ∧ Hid (LS w0 w' bx bm bh hp K F ds)) ∧ a' = { tmps := #[.pointer (some ⟨bh, 0, none⟩), u1, ve, u3, u4, u5, u6, .pointer (some ⟨bx, 0, none⟩), u8, u9, .int .i64 (p : Int), u11, u12, u13, u14, u15, u16, u17, u18, u19, u20, u21, u22, u23, u24, u25, u26, u27, u28, u29, u30, u31, u32, u33, u34, u35, u36, u37, u38, u39, u40, u41, u42, u43, u44, u45, u46, u47, u48, u49, u50, u51, u52, u53, u54, u55, u56, u57, u58, u59, u60, u61, u62, u63, u64, u65, u66, u67, u68, u69, u70, u71, u72, u73, u74, u75, u76, u77, u78, u79, u80, u81], defers := ds }) (fun a' _ => hp.slots.length - (intOf (a'.tmps.getD 10 undef)).toNat) ?_ ?_
      · (repeat apply Exists.intro)
        refine ⟨?_, rfl⟩
        exact ⟨Nat.zero_le _, Nat.le_refl _, HTT, HL⟩
      clear HTT HL
      intro a' wr hinv
      obtain ⟨u1, hinv⟩ := hinv
      obtain ⟨u3, hinv⟩ := hinv
      obtain ⟨u4, hinv⟩ := hinv
      obtain ⟨u5, hinv⟩ := hinv
      obtain ⟨u6, hinv⟩ := hinv
      obtain ⟨u8, hinv⟩ := hinv
      obtain ⟨u9, hinv⟩ := hinv
      obtain ⟨u11, hinv⟩ := hinv
      obtain ⟨u12, hinv⟩ := hinv
      obtain ⟨u13, hinv⟩ := hinv
      obtain ⟨u14, hinv⟩ := hinv
      obtain ⟨u15, hinv⟩ := hinv
      obtain ⟨u16, hinv⟩ := hinv
      obtain ⟨u17, hinv⟩ := hinv
      obtain ⟨u18, hinv⟩ := hinv
      obtain ⟨u19, hinv⟩ := hinv
      obtain ⟨u20, hinv⟩ := hinv
      obtain ⟨u21, hinv⟩ := hinv
      obtain ⟨u22, hinv⟩ := hinv
      obtain ⟨u23, hinv⟩ := hinv
      obtain ⟨u24, hinv⟩ := hinv
      obtain ⟨u25, hinv⟩ := hinv
      obtain ⟨u26, hinv⟩ := hinv
      obtain ⟨u27, hinv⟩ := hinv
      obtain ⟨u28, hinv⟩ := hinv
      obtain ⟨u29, hinv⟩ := hinv
      obtain ⟨u30, hinv⟩ := hinv
      obtain ⟨u31, hinv⟩ := hinv
      obtain ⟨u32, hinv⟩ := hinv
      obtain ⟨u33, hinv⟩ := hinv
      obtain ⟨u34, hinv⟩ := hinv
      obtain ⟨u35, hinv⟩ := hinv
      obtain ⟨u36, hinv⟩ := hinv
      obtain ⟨u37, hinv⟩ := hinv
      obtain ⟨u38, hinv⟩ := hinv
      obtain ⟨u39, hinv⟩ := hinv
      obtain ⟨u40, hinv⟩ := hinv
      obtain ⟨u41, hinv⟩ := hinv
      obtain ⟨u42, hinv⟩ := hinv
      obtain ⟨u43, hinv⟩ := hinv
      obtain ⟨u44, hinv⟩ := hinv
      obtain ⟨u45, hinv⟩ := hinv
      obtain ⟨u46, hinv⟩ := hinv
      obtain ⟨u47, hinv⟩ := hinv
      obtain ⟨u48, hinv⟩ := hinv
      obtain ⟨u49, hinv⟩ := hinv
      obtain ⟨u50, hinv⟩ := hinv
      obtain ⟨u51, hinv⟩ := hinv
      obtain ⟨u52, hinv⟩ := hinv
      obtain ⟨u53, hinv⟩ := hinv
      obtain ⟨u54, hinv⟩ := hinv
      obtain ⟨u55, hinv⟩ := hinv
      obtain ⟨u56, hinv⟩ := hinv
      obtain ⟨u57, hinv⟩ := hinv
      obtain ⟨u58, hinv⟩ := hinv
      obtain ⟨u59, hinv⟩ := hinv
      obtain ⟨u60, hinv⟩ := hinv
      obtain ⟨u61, hinv⟩ := hinv
      obtain ⟨u62, hinv⟩ := hinv
      obtain ⟨u63, hinv⟩ := hinv
      obtain ⟨u64, hinv⟩ := hinv
      obtain ⟨u65, hinv⟩ := hinv
      obtain ⟨u66, hinv⟩ := hinv
      obtain ⟨u67, hinv⟩ := hinv
      obtain ⟨u68, hinv⟩ := hinv
      obtain ⟨u69, hinv⟩ := hinv
      obtain ⟨u70, hinv⟩ := hinv
      obtain ⟨u71, hinv⟩ := hinv
      obtain ⟨u72, hinv⟩ := hinv
      obtain ⟨u73, hinv⟩ := hinv
      obtain ⟨u74, hinv⟩ := hinv
      obtain ⟨u75, hinv⟩ := hinv
      obtain ⟨u76, hinv⟩ := hinv
      obtain ⟨u77, hinv⟩ := hinv
      obtain ⟨u78, hinv⟩ := hinv
      obtain ⟨u79, hinv⟩ := hinv
      obtain ⟨u80, hinv⟩ := hinv
      obtain ⟨u81, hinv⟩ := hinv
      obtain ⟨ds, hinv⟩ := hinv
      obtain ⟨K, hinv⟩ := hinv
      obtain ⟨F, hinv⟩ := hinv
      obtain ⟨p, hinv⟩ := hinv
      obtain ⟨f, hinv⟩ := hinv
      obtain ⟨⟨hpl, hf, HT, HL⟩, ha⟩ := hinv
      subst ha
      try dsimp only
      have cb := HL.out.cell
      obtain ⟨al, cl, m2, -⟩ := HL.out.listCell
      have HGL := Lib.hid (good_len _ _ HL.out.ok.good)
      have h0 : (0 : Int) ≤ (p : Int) := by omega
      have hln2 : (K.length : Int) ≤ 9223372036854775807 := by have := HGL.out; have := HOK.out.few; omega
      by_cases hlt : p < K.length
      · have h1 : (p : Int) < (K.length : Int) := by omega
        obtain ⟨f, rfl⟩ : ∃ f', f = f' + 1 := ⟨f - 1, by have := HGL.out; omega⟩
        rw [liveM_step hlt] at HT
        obtain ⟨D1, hD1⟩ : ∃ D1, drainM hp em hp.slots.length K p = D1 := ⟨_, rfl⟩
        rw [hD1] at HT
        have HD1 := Lib.hid hD1
        have HD1L : Hid (p < D1.length) := Lib.hid (by rw [← hD1]; exact Nat.lt_of_lt_of_le hlt (drainM_len _ _ _))
        have HPL := Lib.hid hlt
        have HFF := Lib.hid hf
        have HPN : Hid (p < hp.slots.length) := Lib.hid (by have := HGL.out; omega)
        clear hD1 hpl hf
        go_wp2_with fail
        clear cb m2 h0 h1 hlt
        refine wp_loop (fun a' w' => ∃ (u1b u3b u4b u5b u6b u8b u9b u11b u12b u13b u14b u15b u16b u17b u18b u19b u20b u21b u22b u23b u24b u25b u26b u27b u28b u29b u30b u31b u32b u33b u34b u35b u36b u37b u38b u39b u40b u41b u42b u43b u44b u45b u46b u47b u48b u49b u50b u51b u52b u53b u54b u55b u56b u57b u58b u59b u60b u61b u62b u63b u64b u65b u66b u67b u68b u69b u70b u71b u72b u73b u74b u75b u76b u77b u78b u79b u80b u81b : Value) (ds2 : List Deferred) (K2 : List Nat) (F2 : List Nat) (p2 f2 : Nat), (p2 ≤ K2.length ∧ hp.slots.length - p2 ≤ f2 ∧ Hid (drainM hp em f2 K2 p2 = D1) ∧ Hid (LS w0 w' bx bm bh hp K2 F2 ds2)) ∧ a' = { tmps := #[.pointer (some ⟨bh, 0, none⟩), u1b, ve, u3b, u4b, u5b, u6b, .pointer (some ⟨bx, 0, none⟩), u8b, u9b, .int .i64 (p2 : Int), u11b, u12b, u13b, u14b, u15b, u16b, u17b, u18b, u19b, u20b, u21b, u22b, u23b, u24b, u25b, u26b, u27b, u28b, u29b, u30b, u31b, u32b, u33b, u34b, u35b, u36b, u37b, u38b, u39b, u40b, u41b, u42b, u43b, u44b, u45b, u46b, u47b, u48b, u49b, u50b, u51b, u52b, u53b, u54b, u55b, u56b, u57b, u58b, u59b, u60b, u61b, u62b, u63b, u64b, u65b, u66b, u67b, u68b, u69b, u70b, u71b, u72b, u73b, u74b, u75b, u76b, u77b, u78b, u79b, u80b, u81b], defers := ds2 }) (fun a' _ => hp.slots.length - (intOf (a'.tmps.getD 10 undef)).toNat) ?_ ?_
        · (repeat apply Exists.intro)
          refine ⟨?_, rfl⟩
          exact ⟨Nat.le_of_lt HPL.out, by omega, HD1, HL⟩
        clear HL HGL al cl hln2
        intro a' wr hinv
        obtain ⟨u1b, hinv⟩ := hinv
        obtain ⟨u3b, hinv⟩ := hinv
        obtain ⟨u4b, hinv⟩ := hinv
        obtain ⟨u5b, hinv⟩ := hinv
        obtain ⟨u6b, hinv⟩ := hinv
        obtain ⟨u8b, hinv⟩ := hinv
        obtain ⟨u9b, hinv⟩ := hinv
        obtain ⟨u11b, hinv⟩ := hinv
        obtain ⟨u12b, hinv⟩ := hinv
        obtain ⟨u13b, hinv⟩ := hinv
        obtain ⟨u14b, hinv⟩ := hinv
        obtain ⟨u15b, hinv⟩ := hinv
        obtain ⟨u16b, hinv⟩ := hinv
        obtain ⟨u17b, hinv⟩ := hinv
        obtain ⟨u18b, hinv⟩ := hinv
        obtain ⟨u19b, hinv⟩ := hinv
        obtain ⟨u20b, hinv⟩ := hinv
        obtain ⟨u21b, hinv⟩ := hinv
        obtain ⟨u22b, hinv⟩ := hinv
        obtain ⟨u23b, hinv⟩ := hinv
        obtain ⟨u24b, hinv⟩ := hinv
        obtain ⟨u25b, hinv⟩ := hinv
        obtain ⟨u26b, hinv⟩ := hinv
        obtain ⟨u27b, hinv⟩ := hinv
        obtain ⟨u28b, hinv⟩ := hinv
        obtain ⟨u29b, hinv⟩ := hinv
        obtain ⟨u30b, hinv⟩ := hinv
        obtain ⟨u31b, hinv⟩ := hinv
        obtain ⟨u32b, hinv⟩ := hinv
        obtain ⟨u33b, hinv⟩ := hinv
        obtain ⟨u34b, hinv⟩ := hinv
        obtain ⟨u35b, hinv⟩ := hinv
        obtain ⟨u36b, hinv⟩ := hinv
        obtain ⟨u37b, hinv⟩ := hinv
        obtain ⟨u38b, hinv⟩ := hinv
        obtain ⟨u39b, hinv⟩ := hinv
        obtain ⟨u40b, hinv⟩ := hinv
        obtain ⟨u41b, hinv⟩ := hinv
        obtain ⟨u42b, hinv⟩ := hinv
        obtain ⟨u43b, hinv⟩ := hinv
        obtain ⟨u44b, hinv⟩ := hinv
        obtain ⟨u45b, hinv⟩ := hinv
        obtain ⟨u46b, hinv⟩ := hinv
        obtain ⟨u47b, hinv⟩ := hinv
        obtain ⟨u48b, hinv⟩ := hinv
        obtain ⟨u49b, hinv⟩ := hinv
        obtain ⟨u50b, hinv⟩ := hinv
        obtain ⟨u51b, hinv⟩ := hinv
        obtain ⟨u52b, hinv⟩ := hinv
        obtain ⟨u53b, hinv⟩ := hinv
        obtain ⟨u54b, hinv⟩ := hinv
        obtain ⟨u55b, hinv⟩ := hinv
        obtain ⟨u56b, hinv⟩ := hinv
        obtain ⟨u57b, hinv⟩ := hinv
        obtain ⟨u58b, hinv⟩ := hinv
        obtain ⟨u59b, hinv⟩ := hinv
        obtain ⟨u60b, hinv⟩ := hinv
        obtain ⟨u61b, hinv⟩ := hinv
        obtain ⟨u62b, hinv⟩ := hinv
        obtain ⟨u63b, hinv⟩ := hinv
        obtain ⟨u64b, hinv⟩ := hinv
        obtain ⟨u65b, hinv⟩ := hinv
        obtain ⟨u66b, hinv⟩ := hinv
        obtain ⟨u67b, hinv⟩ := hinv
        obtain ⟨u68b, hinv⟩ := hinv
        obtain ⟨u69b, hinv⟩ := hinv
        obtain ⟨u70b, hinv⟩ := hinv
        obtain ⟨u71b, hinv⟩ := hinv
        obtain ⟨u72b, hinv⟩ := hinv
        obtain ⟨u73b, hinv⟩ := hinv
        obtain ⟨u74b, hinv⟩ := hinv
        obtain ⟨u75b, hinv⟩ := hinv
        obtain ⟨u76b, hinv⟩ := hinv
        obtain ⟨u77b, hinv⟩ := hinv
        obtain ⟨u78b, hinv⟩ := hinv
        obtain ⟨u79b, hinv⟩ := hinv
        obtain ⟨u80b, hinv⟩ := hinv
        obtain ⟨u81b, hinv⟩ := hinv
        obtain ⟨ds2, hinv⟩ := hinv
        obtain ⟨K2, hinv⟩ := hinv
        obtain ⟨F2, hinv⟩ := hinv
        obtain ⟨p2, hinv⟩ := hinv
        obtain ⟨f2, hinv⟩ := hinv
        obtain ⟨⟨hpl, hf, HD, HL⟩, ha⟩ := hinv
        subst ha
        try dsimp only
        have cb := HL.out.cell
        obtain ⟨al, cl, m2, hel⟩ := HL.out.listCell
        have HGL := Lib.hid (good_len _ _ HL.out.ok.good)
        have h0 : (0 : Int) ≤ (p2 : Int) := by omega
        have hln2 : (K2.length : Int) ≤ 9223372036854775807 := by have := HGL.out; have := HOK.out.few; omega
        by_cases hlt : p2 < K2.length
        · have h1 : (p2 : Int) < (K2.length : Int) := by omega
          obtain ⟨f2, rfl⟩ : ∃ f', f2 = f' + 1 := ⟨f2 - 1, by have := HGL.out; omega⟩
          rw [drainM_some hlt] at HD
          obtain ⟨g, off, rfl, c0⟩ := hel p2 hlt
          have hKi := List.getElem_mem hlt
          have hs := HL.out.ok.good.lt _ hKi
          have hus := HL.out.ok.used _ hKi
          have hso := slotOf_handle hs hus HOK.out.few
          have hhi := handle_in hp.base hp.stride (i := K2[p2]) (by have := HOK.out.few; omega)
          have HPL2 := Lib.hid (show p2 + 1 ≤ K2.length from hlt)
          have HFF2 : Hid (hp.slots.length - (p2 + 1) ≤ f2) := Lib.hid (by omega)
          have HPN2 : Hid (p2 < hp.slots.length) := Lib.hid (by have := HGL.out; omega)
          have w64 : IntKind.i64.wrap ((p2 : Int) + 1) = ((p2 + 1 : Nat) : Int) := IntWalk.i64_in _ (by have := HGL.out; have := HOK.out.few; omega)
          have HKS : Hid (K2[p2]? = some K2[p2]) := Lib.hid (List.getElem?_eq_getElem hlt)
          generalize K2[p2] = s at *
          have hA := hat_any wr bh 0 hp Fh (handleM hp.base hp.stride (s : Nat)) (.slice ah hp.slots.length caph) (HHH.out.still HL.out.own.chg) (HL.out.own.chg.cell HCH2.out) (by omega)
          obtain ⟨gh, oh, rfl, hptr, Go_, hobj⟩ := hpObj HHH.out HCH2.out hs
          rw [hso, hptr] at hA
          have HA := Lib.hid hA
          have HOB := Lib.hid hobj
          have HDK := Lib.hid (HOK.out.obj s hs)
          have HRF := Lib.hid (HOK.out.refs s hs)
          have HPR : Hid (procK hp em K2 s = addsK hp (addsK hp K2 (refsM hp.slots[s].obj)) (em (handleM hp.base hp.stride (s : Nat)))) := Lib.hid (by
            unfold procK
            rw [List.getD_eq_getElem?_getD, List.getElem?_eq_getElem hs]
            rfl)
          have HIN : Hid (InI (handleM hp.base hp.stride (s : Nat))) := Lib.hid (by unfold InI; omega)
          clear hKi hus hso hA hptr hobj hel
          generalize hp.slots[s].obj = x at *
          clear hs
          generalize hhz : handleM hp.base hp.stride (s : Nat) = hz at *
          have HHZ := Lib.hid hhz
          clear hhz
          go_upto_region 11 with fail
          go_cut [51] from 11 to 81 (fun u51 wx => ∃ bt, u51 = .func (.func 39) #[] #[.pointer (some ⟨bt, 0, none⟩)] ∧ Hid (wx.heap[bt]? = some (.cells #[.pointer (some ⟨gh, oh + s * 11 + 1, none⟩)] 64 (0, 0)) ∧ w0.heap.size ≤ bt) ∧ Hid (LS w0 wx bx bm bh hp K2 F2 ds2))
          case first =>
            go_wp2_with (first
              | (go_at_call 24; refine HA.out.mono ?_; rintro e wa ⟨rfl, hca⟩; have HRE := Lib.hid (refs_any wa (some ⟨gh, oh + s * 11 + 1, none⟩)))
              | (go_at_call 23; refine HRE.out.mono ?_; rintro e wb ⟨rfl, rfl⟩))
            go_meet
            exact ⟨_, rfl, Lib.hid ⟨alloc_block _ _, Nat.le_trans HL.out.own.chg.size hca.size⟩, Lib.hid (HL.out.still (hca.allocR _))⟩
          case rest =>
          obtain ⟨bt, rfl, HBT, HL2⟩ := hcut
          clear HL cb m2 c0 h0 h1 hln2 HGL HA
          go_wp2_with fail
          refine (wpIn_wide (n := 9) (P := Tryd.prog)).1 (wpIn_rangeFunc_list (F := Fence.wide) (n := 9) rfl (by omega) (gf := 39) (lb := #[.pointer (some ⟨bt, 0, none⟩)]) rfl trivial (enters_of Tryd.func39 (by kernel_rfl) rfl) (encs := fun h : Int => #[.int .i64 h]) (xs := refsM x) ?seq (fun _ => rfl)
            (fun B1 pre W => LI w0 wc W bx bm bh hp (addsK hp K2 pre) ds2 B1) ?hI ?h0 (fun y => { tmps := #[.pointer (some ⟨bh, 0, none⟩), u1b, ve, u3b, u4b, u5b, u6b, .pointer (some ⟨bx, 0, none⟩), u8b, u9b, .int .i64 (p2 : Int), .int .i64 y, u12, u13, u14, u15, u16, u17, u18, u19, u20, u21, u22, u23, u24, u25, u26, u27, u28, u29, u30, u31, u32, u33, u34, u35, u36, u37, u38, u39, u40, u41, u42, u43, u44, u45, u46, u47, u48, u49, u50, .func (.func 39) #[] #[.pointer (some ⟨bt, 0, none⟩)], .int .i64 y, u53, u54, u55, u56, u57, u58, u59, u60, u61, u62, u63, u64, u65, u66, u67, u68, u69, u70, u71, u72, u73, u74, u75, u76, u77, u78, u79, u80, u81], defers := [] }) ?assign ?body ?done)
          case seq =>
            intro W hc
            exact refs1_seq _ W gh (oh + s * 11 + 1) bt x Go_ (HOB.out.still (HL2.out.own.chg.trans' hc)) (hc.keep HBT.out.1 (fun x => x)) HDK.out
          case hI =>
            intro B1 pre W l o o' hi hl ho hoc
            refine hi.putObj hl ho hoc fun d hd e => ?_
            have := HL2.out.defs.lt (D := l) (e ▸ hd)
            omega
          case h0 =>
            intro W hc
            exact LI.start HL2.out hc
          case assign =>
            intro l y W K hK
            have hsem := @Oper.semAt_some
            gi_wp2
            exact hK
          case body =>
            rintro l B1 pre y W hB hi hpre
            obtain ⟨F3, hls, hF3⟩ := hi.ex
            have cb := hls.cell
            have hy : InI y := HRF.out y (hpre.subset (by simp))
            have HAD := Lib.hid (madd_any w0 W bm bh hp Fh _ y HHH.out F3 hls.own hls.ok hy HOK.out.few)
            have HLS := Lib.hid hls
            have HIL := Lib.hid hi
            have HFB := Lib.hid hF3
            have h1n : 1 ≤ 9 - 1 - 1 := by omega
            clear hls hi hF3 hy hB
            have hsem := @Oper.semAt_some
            gi_wp2_with (first | (refine ⟨trivial, ?_⟩; gi_at_call 22; refine (CallsIn.inRound l (callsIn_wide.2 HAD.out)).mono ?_; rintro e wa ⟨rfl, F4, ho4, hk4, hs4, -⟩))
            rw [addsK_snoc]
            exact LI.step HLS.out HFB.out HIL.out.lo HIL.out.sz ho4 hk4 hs4
          case done =>
            intro D B1 W hD hi hk
            obtain ⟨F3, hls, -⟩ := hi.ex
            have HL3 : Hid (LS w0 W bx bm bh hp (addsK hp K2 (refsM x)) F3 (markD D :: ds2)) := Lib.hid ⟨hls.own, hls.ok, hls.box, hls.bxF, hls.lo, hls.defs.push (Nat.le_trans HL2.out.own.chg.size hD) hk (fun d hd e => by
              have := HL2.out.defs.lt (D := D) (e ▸ hd)
              omega)⟩
            have cb := hls.cell
            have HKL := Lib.hid (prefix_get (addsK_prefix hp (refsM x) K2) HKS.out)
            clear hls hi hk hD HL2 HBT HOB
            dsimp only
            rw [show ({ target := .collected D, args := #[] } : Deferred) = markD D from rfl]
            generalize addsK hp K2 (refsM x) = K3 at *
            rcases HEE.out with ⟨rfl, hem⟩ | hff
            · have HP2 : Hid (procK hp em K2 s = K3) := Lib.hid (by rw [HPR.out, hem]; rfl)
              clear hem
              have hq1 := eqFn_nil
              go_wp2_with fail
              refine ⟨?_, ?measure⟩
              (repeat apply Exists.intro)
              refine ⟨?rel, rfl⟩
              case rel => exact ⟨HKL.out.1, HFF2.out, by rw [HP2.out] at HD; exact HD, HL3⟩
              case measure => have := HPN2.out; simp [intOf, w64]; omega
            · exact hff.elim
        · have hpe : p2 = K2.length := by omega
          have hDD : D1 = K2 := by rw [← HD.out, drainM_none (by omega)]
          have HHW := Lib.hid (weak_any w0 wr bm bh hp Fh K2 F2 HHH.out HL.out.own HL.out.ok HOK.out)
          have hnl : ¬ (p2 : Int) < (K2.length : Int) := by omega
          have HWS := Lib.hid (weakM_len hp K2)
          have HLE := Lib.hid (show p2 ≤ K2.length by omega)
          have HPE := Lib.hid hpe
          have HDE := Lib.hid hDD
          have HFT : Hid (hp.slots.length - p2 ≤ f) := Lib.hid (by have := HD1L.out; rw [hDD] at this; have := HFF.out; omega)
          clear hel hlt hpl hf hDD hpe
          go_wp2_with (first | (go_at_call 25; refine HHW.out.mono ?_; rintro e wa ⟨rfl, F6, ho6, hk6, hs6⟩))
          refine ⟨?_, ?measure⟩
          (repeat apply Exists.intro)
          refine ⟨?rel, rfl⟩
          case rel => exact ⟨by have := HWS.out; have := HPE.out; omega, HFT.out, by have h := HT; rw [HDE.out, ← HPE.out] at h; exact h, Lib.hid (HL.out.step ho6 hk6 hs6)⟩
          case measure =>
            have hx := HD1L.out
            have hy := HPN.out
            rw [HDE.out, ← HPE.out] at hx
            simp [intOf]
            omega
      · have hKT : K = T := by rw [← HT.out, liveM_done (by omega)]
        have hnl : ¬ (p : Int) < (K.length : Int) := by omega
        have HKT := Lib.hid hKT
        clear hKT hlt hpl hf
        have HM2 := Lib.hid m2
        go_wp2_with fail
        obtain ⟨Ds, rfl, hnd, hd⟩ := HL.out.defs.ex
        rw [bodyM_eq]
        refine leaves_marks Ds w0 wr hnd hd (fun W' hc => ?_)
        refine ⟨_, results_tmp rfl _ _ _, _, rfl, ?_⟩
        rw [HTE.out, ← HKT.out]
        exact HL.out.out HM2.out hd hc
end Go.Proofs.YthiiehanlconeaaDoor
