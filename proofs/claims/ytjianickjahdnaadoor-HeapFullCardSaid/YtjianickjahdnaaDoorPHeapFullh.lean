/-
  heap.Link.
  heap.Put of an array's element.
  The fixed example of the laws of heaps (awake).
  HeapBegins: what it calls, what a new heap holds.
  HeapChains, plainly: chains of eight objects.
  HeapChains, plainly: the heap of the law.
  HeapOrders, plainly: one object's properties, in their order.
  A heap that is full: Make, Fault; value.Text.
  What the rows' listed variables give: the tables of unicode/utf8.
-/
import Derived.Test.YtjianickjahdnaaDoorPHeapFullg
import Derived.Test.YtjianickjahdnaaDoorPHeapFulld
import Derived.Test.YtjianickjahdnaaDoorPHeapFulla
import Derived.Test.YtjianickjahdnaaDoorRows
import Derived.MakeChecks
namespace Go.Proofs.YtjianickjahdnaaDoor
open Go.RowKit
set_option linter.unusedVariables false
set_option linter.unusedSimpArgs false

theorem run_loadVarE (w : World) (g : Nat) (v : Value) (hc : w.cell? ⟨g, 0, none⟩ = some v) : (loadVar 32 ⟨g, 0, none⟩).run Tryd.prog w = .ok v w := by
  have hu := Tryd.underlying32
  simp [loadVar, isAgg, go_sem, hu, hc]
theorem Post.late {α : Type} {A : Rep α} {S : Nat → Prop} {w0 w w' w2 : World} {b o : Nat} {a' : α} {F : List Nat} (h0 : Chg (fun k => w0.heap.size ≤ k) w0 w) (hp : Post A w b o a' F w') (hb : b < w0.heap.size) (hF : ∀ k ∈ F, k < w0.heap.size) (hc : Chg S w' w2) (hS : ∀ k, S k → w0.heap.size ≤ k ∧ k < w.heap.size) : Post A w0 b o a' F w2 := by
  obtain ⟨F', h1, h2⟩ := hp
  have hs := h0.size
  have hnb : ¬ S b := fun x => by have := hS _ x; omega
  have hnF : ∀ k ∈ F', ¬ S k := fun k hk x => by
    have h3 := hS _ x
    rcases h2.new k hk with y | y
    · have := hF _ y; omega
    · omega
  refine ⟨F', h1.chg hc hnb hnF, ?_, fun k hk => (h2.new k hk).imp id (fun y => by omega), fun c T hcb => ?_⟩
  · exact (h0.trans h2.chg (fun i hi x => by omega) (fun _ _ x => x)).trans hc (fun _ _ x => x) (fun i hi x => by have := hS _ x; omega)
  · obtain ⟨c', k1, k2, k3⟩ := h2.rest c T (h0.keep hcb (by omega))
    exact ⟨c', hc.keep k1 hnb, k2, k3⟩
def LinkPost (w : World) (bh : Nat) (hp : Hp) (F : List Nat) (o proto : Int) (x : Obj) (i : Nat) (e : Ending) (w' : World) : Prop :=
  if (chainM hp 100001 proto).contains o = true then e = .returned (.int .i64 16) ∧ Chg (fun _ => False) w w' else e = .returned (.int .i64 0) ∧ Post hpR w bh 0 (putO hp i x) F w'
set_option maxHeartbeats 6400000 in
set_option maxRecDepth 100000 in
theorem link_any (w : World) (bh : Nat) (hp : Hp) (F : List Nat) (o proto : Int) (i : Nat) (H : Here hpR w bh 0 hp F) (ho : InJ o) (hpi : InJ proto) (hs : slotOf hp o = some i) (hpr : ∀ s (hs : s < hp.slots.length), InJ hp.slots[s].obj.proto) (hsl : i < hp.slots.length)
    (hlive : proto = 0 ∨ (slotOf hp proto).isSome = true) :
    Calls Tryd.prog 28 #[.pointer (some ⟨bh, 0, none⟩), .int .i64 o, .int .i64 proto] w (LinkPost w bh hp F o proto { hp.slots[i].obj with proto := proto } i) := by
  refine (callsIn_wide (n := 9)).1 (callsIn_of_wp_marks Tryd.func28 rfl trivial ?_)
  refine (wpIn_wide (n := 9) (P := Tryd.prog)).2 ?_
  obtain ⟨gh, oh, kh, ch, G, HOBJ0, hGF, hput⟩ := hpPut H hsl
  have HAT := Lib.hid (fun W (hc : Chg (fun _ => False) w W) => hat_any W bh 0 hp F o _ (H.still hc) (hc.cell (by rw [Nat.zero_add]; exact ch)) ho)
  rw [hs, show objPtr (.slice (some ⟨gh, oh, none⟩) hp.slots.length kh) (some i) = some ⟨gh, oh + i * 11 + 1, none⟩ from rfl] at HAT
  have HAP := Lib.hid (fun W (hc : Chg (fun _ => False) w W) => hat_any W bh 0 hp F proto _ (H.still hc) (hc.cell (by rw [Nat.zero_add]; exact ch)) hpi)
  have HPT := Lib.hid hput
  have HOB := Lib.hid HOBJ0
  have HIN := Lib.hid hpi
  have HPR := Lib.hid hpr
  have HH := Lib.hid H
  have HLV := Lib.hid hlive
  have hcA := (Chg.alloc (fun _ => False) w (.cells #[.int .i64 o] 3)).allocR (.cells #[.int .i64 0] 32)
  have HCA := Lib.hid hcA
  have hb5 := (Chg.alloc (fun _ => False) (w.alloc (.cells #[.int .i64 o] 3)) (.cells #[.int .i64 0] 32)).keep (alloc_block w (.cells #[.int .i64 o] 3)) (fun x => x)
  have hb6 := alloc_block (w.alloc (.cells #[.int .i64 o] 3)) (.cells #[.int .i64 0] 32)
  have hs1 : (w.alloc (.cells #[.int .i64 o] 3)).heap.size = w.heap.size + 1 := Array.size_push ..
  rw [hs1] at hb6
  have HB6 := Lib.hid hb6
  have HB5 := Lib.hid hb5
  clear hcA hb6 hb5 hs1 ch H ho hs hpi hpr HOBJ0 hlive hGF hput
  simp only [Tryd.ntmps28, List.size_toArray, List.length_cons, List.length_nil, Nat.reduceAdd, Nat.reduceSub, Array.replicate_succ, Array.replicate_zero, List.push_toArray, List.append_toArray, List.nil_append, List.cons_append]
  go_upto_region 1 with fail
  generalize (w.alloc (.cells #[.int .i64 o] 3)).alloc (.cells #[.int .i64 0] 32) = w1 at *
  generalize hbe : w.heap.size + 1 = b6 at *
  generalize hbe5 : w.heap.size = b4 at *
  have HBE := Lib.hid hbe
  have HBE5 := Lib.hid hbe5
  clear hbe hbe5
  have k4 := cell_of_block (i := 0) HB5.out rfl
  simp only [List.getElem_toArray, List.getElem_cons_zero] at k4
  go_upto_region 2 with (go_at_call 35; refine (HAT.out _ HCA.out).mono ?_; rintro e wa ⟨rfl, hca⟩)
  have HCW := Lib.hid (HCA.out.trans' hca)
  have HBA := Lib.hid (hca.keep HB6.out (fun x => x))
  have HB5A := Lib.hid (hca.keep HB5.out (fun x => x))
  have k4 := cell_of_block (i := 0) HB5A.out rfl
  simp only [List.getElem_toArray, List.getElem_cons_zero] at k4
  clear hca HAT HCA HB6 HB5
  by_cases hz : proto = 0
  · subst hz
    have hce := fun W => chain_any W (some ⟨bh, 0, none⟩) 0
    have HCE := Lib.hid hce
    clear hce
    go_wp2_with (go_at_call 36; refine (HCE.out _).mono ?_; rintro e wc ⟨rfl, rfl⟩)
    have hk1 := (Chg.alloc (fun _ => False) (wa.alloc (.cells #[.pointer (some ⟨bh, 0, none⟩)] 73)) (.cells #[.int .i64 0] 3)).keep (alloc_block wa (.cells #[.pointer (some ⟨bh, 0, none⟩)] 73)) (fun x => x)
    have hk2 := alloc_block (wa.alloc (.cells #[.pointer (some ⟨bh, 0, none⟩)] 73)) (.cells #[.int .i64 0] 3)
    have hs2 : (wa.alloc (.cells #[.pointer (some ⟨bh, 0, none⟩)] 73)).heap.size = wa.heap.size + 1 := Array.size_push ..
    rw [hs2] at hk2
    have hcc := (Chg.alloc (fun _ => False) wa (.cells #[.pointer (some ⟨bh, 0, none⟩)] 73)).allocR (.cells #[.int .i64 0] 3)
    have HCC := Lib.hid (HCW.out.trans' hcc)
    have hk6 := hcc.keep HBA.out (fun x => x)
    have hk5 := hcc.keep HB5A.out (fun x => x)
    have hsz := HCW.out.size
    have hl6 := lt_of_block HBA.out
    generalize (wa.alloc (.cells #[.pointer (some ⟨bh, 0, none⟩)] 73)).alloc (.cells #[.int .i64 0] 3) = wc at *
    generalize hb1e : wa.heap.size = b1 at *
    have hlt2 := lt_of_block hk2
    have HF := Lib.hid (HH.out.still HCC.out)
    have HK1 := Lib.hid hk1
    have HK2 := Lib.hid hk2
    have HK5 := Lib.hid hk5
    have HK6 := Lib.hid hk6
    have hbne := HBE.out
    have hb5e := HBE5.out
    have hbl := HH.out.lt
    have hol : gh < w.heap.size ∧ ∀ k ∈ G, k < w.heap.size := HOB.out.lt
    have HN : Hid (b4 ≠ b1 + 1 ∧ b6 ≠ b1 + 1 ∧ b1 + 1 < wc.heap.size ∧ b6 < wc.heap.size ∧ w.heap.size ≤ b6 ∧ w.heap.size ≤ b1 + 1 ∧ bh ≠ b1 + 1 ∧ b1 + 1 ∉ F) := Lib.hid ⟨by omega, by omega, by omega, by omega, by omega, by omega, by have := hbl.1; omega, fun hx => by have := hbl.2 _ hx; omega⟩
    have HOL : Hid (gh < w.heap.size ∧ ∀ k ∈ G, k < w.heap.size) := Lib.hid hol
    clear hk1 hk2 hs2 hcc hk6 hk5 hsz hl6 hb1e hlt2 hbne hb5e hbl hol HBA HB5A HCE HCW HBE HBE5 k4
    refine (wpIn_wide (n := 9) (P := Tryd.prog)).1 (wpIn_rangeFunc_find (F := Fence.wide) (n := 9) rfl (by omega) (gf := 52) (lb := #[.pointer (some ⟨b1, 0, none⟩), .pointer (some ⟨b1 + 1, 0, none⟩)]) rfl trivial (enters_of Tryd.func52 (by kernel_rfl) rfl) (encs := fun h : Int => #[.int .i64 h]) (xs := chainM hp 100001 0) (bo := b1 + 1) HN.out.2.2.1 ?seq (fun _ => rfl)
      (fun pre => o ∉ pre) (fun pre W => o ∈ chainM hp 100001 0 ∧ W.heap[b6]? = some (.cells #[.int .i64 16] 32 (0, 0))) (fun k => k = b6) ?hT ?hR (by simp) (fun y => { tmps := #[.pointer (some ⟨bh, 0, none⟩), .int .i64 o, .int .i64 0, undef, .pointer (some ⟨b4, 0, none⟩), undef, .pointer (some ⟨b6, 0, none⟩), .pointer (some ⟨gh, oh + i * 11 + 1, none⟩), .int .i64 y, .pointer (some ⟨bh, 0, none⟩), .int .i64 o, .pointer (some ⟨gh, oh + i * 11 + 1, none⟩), .pointer (some ⟨gh, oh + i * 11 + 1, none⟩), .bool false, .bool false, .int .i64 0, .bool false, .bool false, undef, undef, undef, undef, .bool false, .bool false, .pointer (some ⟨bh, 0, none⟩), .int .i64 0, .func (.func 52) #[] #[.pointer (some ⟨b1, 0, none⟩), .pointer (some ⟨b1 + 1, 0, none⟩)], .int .i64 y, undef, undef, undef, undef, undef, undef, undef], defers := [] }) ?assign ?body ?done ?stop)
    case seq => exact chain1_find _ wc bh hp F b1 (b1 + 1) _ 0 HF.out HK1.out HK2.out (by omega) HN.out.2.2.2.2.2.2.2 HN.out.2.2.2.2.2.2.1 HIN.out HPR.out
    case hT => rintro k rfl; exact HN.out.2.2.2.1
    case hR => rintro pre A B ⟨h1, h2⟩ hc; exact ⟨h1, hc.keep h2 (by have := HN.out.2.2.2.1; omega)⟩
    case assign =>
      intro l y W K hK
      have hsem := @Oper.semAt_some
      gi_wp2
      exact hK
    case body =>
      rintro l pre y W hpre hpx hcw
      have hb5 := hcw.keep HK5.out HN.out.1
      have hb6 := hcw.keep HK6.out HN.out.2.1
      have k5 := cell_of_block (i := 0) hb5 rfl
      have k6 := cell_of_block (i := 0) hb6 rfl
      have f6 := frozen_of_block (i := 0) hb6
      simp only [List.getElem_toArray, List.getElem_cons_zero] at k5 k6
      have HS6 := Lib.hid (setCell_block (i := 0) (.int .i64 16) hb6)
      have HPR2 := Lib.hid hpre
      have HPX := Lib.hid hpx
      have hsem := @Oper.semAt_some
      clear hb5 hb6 hcw hpre hpx
      by_cases hyp : y = o
      · subst hyp
        gi_wp2
        exact ⟨⟨HPX.out.subset (by simp), HS6.out⟩, Chg.setCell W ⟨b6, 0, none⟩ _⟩
      · have z9 : (y == o) = false := beq_false_of_ne hyp
        gi_wp2
        exact ⟨⟨HPR2.out, Ne.symm hyp⟩, Chg.refl _ _⟩
    case done =>
      intro D W hD hi hcw hk
      have hb6 := hcw.keep HK6.out HN.out.2.1
      have hn := HN.out
      have hol := HOL.out
      have hg6 : gh ≠ b6 := by omega
      have hb6g := (Chg.setCell W ⟨gh, oh + i * 11 + 1 + 1, none⟩ (.int .i64 0)).keep hb6 (show ¬ b6 = gh by omega)
      have k6 := cell_of_block (i := 0) hb6g rfl
      have f6 := frozen_of_block (i := 0) hb6g
      simp only [List.getElem_toArray, List.getElem_cons_zero] at k6
      have HS6 := Lib.hid (setCell_block (i := 0) (.int .i64 0) hb6g)
      have hoW : Here objR W gh (oh + i * 11 + 1) hp.slots[i].obj G := (HOB.out.still HCC.out).chg hcw (show ¬ gh = b1 + 1 by omega) (fun k hk e => by have := hol.2 k hk; omega)
      obtain ⟨vp, ve, vd, vs, HOC⟩ := objOpen hoW
      have p1 := HOC.c1
      have fp1 := hoW.frozen (oh + i * 11 + 1 + 1)
      have HP1 := Lib.hid (hoW.setPost objR_proto (y := 0) (v := .int .i64 0) rfl)
      have hcW : Chg (fun k => w.heap.size ≤ k) w W := (HCC.out.trans hcw (fun _ _ x => x.elim) (fun i hi x => by omega))
      have HCWW := Lib.hid hcW
      have hDW := lt_of_block hk
      have hkD := ((Chg.setCell W ⟨gh, oh + i * 11 + 1 + 1, none⟩ (.int .i64 0)).keep hk (show ¬ D = gh by omega))
      have HKD := Lib.hid (show ((W.setCell ⟨gh, oh + i * 11 + 1 + 1, none⟩ (.int .i64 0)).setCell ⟨b6, 0, none⟩ (.int .i64 0)).heap[D]? = some (.deferred (some [])) from (Chg.setCell _ ⟨b6, 0, none⟩ _).keep hkD (show ¬ D = b6 by omega))
      have HDL := Lib.hid (show wc.heap.size ≤ D ∧ D < W.heap.size ∧ wc.heap.size ≤ W.heap.size from ⟨hD, hDW, hcw.size⟩)
      have hcf : ¬ (chainM hp 100001 0).contains o = true := by simpa using hi
      have HNF := Lib.hid hcf
      clear hb6 hb6g hcw hk hkD hi hD hoW HOC hcf hn hol hcW hDW
      dsimp only
      go_wp2_with fail
      rw [bodyM_eq]
      refine ⟨by simp, .inl ⟨_, _, rfl, run_takeDeferred HKD.out, ?_⟩⟩
      have hn := HN.out
      have hdl := HDL.out
      have hol := HOL.out
      have hb6' := ((Chg.refl (fun k => k = D) ((W.setCell ⟨gh, oh + i * 11 + 1 + 1, none⟩ (.int .i64 0)).setCell ⟨b6, 0, none⟩ (.int .i64 0))).putL D (.deferred none) (fun _ => rfl)).keep HS6.out (by omega)
      have k7 := cell_of_block (i := 0) hb6' rfl
      refine ⟨_, results_cell1 rfl _ _ b6 (.int .i64 0) (by rfl) (run_loadVarE _ _ _ k7), ?_⟩
      unfold LinkPost
      rw [if_neg HNF.out]
      refine ⟨rfl, HPT.out _ _ ?_⟩
      exact Post.late (S := fun k => k = b6 ∨ k = D) HCWW.out HP1.out hol.1 hol.2 (((Chg.setCell _ ⟨b6, 0, none⟩ _).mono (fun _ _ x => .inl x)).putL _ _ (fun _ => .inr rfl)) (fun k hk => by rcases hk with rfl | rfl <;> omega)
    case stop =>
      rintro D pre W hD ⟨hin, hb6⟩ hcw hk
      have hn := HN.out
      have hcf : (chainM hp 100001 0).contains o = true := by simpa using hin
      gi_wp2
      rw [bodyM_eq]
      refine ⟨by simp, .inl ⟨_, _, rfl, run_takeDeferred hk, ?_⟩⟩
      have hb6' := ((Chg.refl (fun k => k = D) W).putL D (.deferred none) (fun _ => rfl)).keep hb6 (by omega)
      have k7 := cell_of_block (i := 0) hb6' rfl
      refine ⟨_, results_cell1 rfl _ _ b6 (.int .i64 16) (by rfl) (run_loadVarE _ _ _ k7), ?_⟩
      unfold LinkPost
      rw [if_pos hcf]
      refine ⟨rfl, ?_⟩
      exact ((HCC.out.trans hcw (fun _ _ x => x) (fun i hi x => by omega)).putL _ _ (fun h => by omega))
  · have z1 : (proto == 0) = false := beq_false_of_ne hz
    have z2 : (proto != 0) = true := bne_iff_ne.2 hz
    have hce := fun W => chain_any W (some ⟨bh, 0, none⟩) proto
    have HCE := Lib.hid hce
    obtain ⟨j, hj⟩ : ∃ j, slotOf hp proto = some j := by
      rcases HLV.out with h | h
      · exact absurd h hz
      · exact Option.isSome_iff_exists.1 h
    rw [hj, show objPtr (.slice (some ⟨gh, oh, none⟩) hp.slots.length kh) (some j) = some ⟨gh, oh + j * 11 + 1, none⟩ from rfl] at HAP
    clear hce hj
    go_wp2_with (first | (go_at_call 35; refine (HAP.out _ HCW.out).mono ?_; rintro e wb ⟨rfl, hcb⟩; have HCW := Lib.hid (HCW.out.trans' hcb); have HBA := Lib.hid (hcb.keep HBA.out (fun x => x)); have HB5A := Lib.hid (hcb.keep HB5A.out (fun x => x)); clear hcb) | (go_at_call 36; refine (HCE.out _).mono ?_; rintro e wc ⟨rfl, rfl⟩))
    have hk1 := (Chg.alloc (fun _ => False) (wb.alloc (.cells #[.pointer (some ⟨bh, 0, none⟩)] 73)) (.cells #[.int .i64 proto] 3)).keep (alloc_block wb (.cells #[.pointer (some ⟨bh, 0, none⟩)] 73)) (fun x => x)
    have hk2 := alloc_block (wb.alloc (.cells #[.pointer (some ⟨bh, 0, none⟩)] 73)) (.cells #[.int .i64 proto] 3)
    have hs2 : (wb.alloc (.cells #[.pointer (some ⟨bh, 0, none⟩)] 73)).heap.size = wb.heap.size + 1 := Array.size_push ..
    rw [hs2] at hk2
    have hcc := (Chg.alloc (fun _ => False) wb (.cells #[.pointer (some ⟨bh, 0, none⟩)] 73)).allocR (.cells #[.int .i64 proto] 3)
    have HCC := Lib.hid (HCW.out.trans' hcc)
    have hk6 := hcc.keep HBA.out (fun x => x)
    have hk5 := hcc.keep HB5A.out (fun x => x)
    have hsz := HCW.out.size
    have hl6 := lt_of_block HBA.out
    generalize (wb.alloc (.cells #[.pointer (some ⟨bh, 0, none⟩)] 73)).alloc (.cells #[.int .i64 proto] 3) = wc at *
    generalize hb1e : wb.heap.size = b1 at *
    have hlt2 := lt_of_block hk2
    have HF := Lib.hid (HH.out.still HCC.out)
    have HK1 := Lib.hid hk1
    have HK2 := Lib.hid hk2
    have HK5 := Lib.hid hk5
    have HK6 := Lib.hid hk6
    have hbne := HBE.out
    have hb5e := HBE5.out
    have hbl := HH.out.lt
    have hol : gh < w.heap.size ∧ ∀ k ∈ G, k < w.heap.size := HOB.out.lt
    have HN : Hid (b4 ≠ b1 + 1 ∧ b6 ≠ b1 + 1 ∧ b1 + 1 < wc.heap.size ∧ b6 < wc.heap.size ∧ w.heap.size ≤ b6 ∧ w.heap.size ≤ b1 + 1 ∧ bh ≠ b1 + 1 ∧ b1 + 1 ∉ F) := Lib.hid ⟨by omega, by omega, by omega, by omega, by omega, by omega, by have := hbl.1; omega, fun hx => by have := hbl.2 _ hx; omega⟩
    have HOL : Hid (gh < w.heap.size ∧ ∀ k ∈ G, k < w.heap.size) := Lib.hid hol
    clear hk1 hk2 hs2 hcc hk6 hk5 hsz hl6 hb1e hlt2 hbne hb5e hbl hol HBA HB5A HCE HCW HBE HBE5 k4
    refine (wpIn_wide (n := 9) (P := Tryd.prog)).1 (wpIn_rangeFunc_find (F := Fence.wide) (n := 9) rfl (by omega) (gf := 52) (lb := #[.pointer (some ⟨b1, 0, none⟩), .pointer (some ⟨b1 + 1, 0, none⟩)]) rfl trivial (enters_of Tryd.func52 (by kernel_rfl) rfl) (encs := fun h : Int => #[.int .i64 h]) (xs := chainM hp 100001 proto) (bo := b1 + 1) HN.out.2.2.1 ?seq (fun _ => rfl)
      (fun pre => o ∉ pre) (fun pre W => o ∈ chainM hp 100001 proto ∧ W.heap[b6]? = some (.cells #[.int .i64 16] 32 (0, 0))) (fun k => k = b6) ?hT ?hR (by simp) (fun y => { tmps := #[.pointer (some ⟨bh, 0, none⟩), .int .i64 o, .int .i64 proto, undef, .pointer (some ⟨b4, 0, none⟩), undef, .pointer (some ⟨b6, 0, none⟩), .pointer (some ⟨gh, oh + i * 11 + 1, none⟩), .int .i64 y, .pointer (some ⟨bh, 0, none⟩), .int .i64 o, .pointer (some ⟨gh, oh + i * 11 + 1, none⟩), .pointer (some ⟨gh, oh + i * 11 + 1, none⟩), .bool false, .bool false, .int .i64 proto, .bool true, .bool true, .pointer (some ⟨bh, 0, none⟩), .int .i64 proto, .pointer (some ⟨gh, oh + j * 11 + 1, none⟩), .bool false, .bool false, .bool false, .pointer (some ⟨bh, 0, none⟩), .int .i64 proto, .func (.func 52) #[] #[.pointer (some ⟨b1, 0, none⟩), .pointer (some ⟨b1 + 1, 0, none⟩)], .int .i64 y, undef, undef, undef, undef, undef, undef, undef], defers := [] }) ?assign ?body ?done ?stop)
    case seq => exact chain1_find _ wc bh hp F b1 (b1 + 1) _ proto HF.out HK1.out HK2.out (by omega) HN.out.2.2.2.2.2.2.2 HN.out.2.2.2.2.2.2.1 HIN.out HPR.out
    case hT => rintro k rfl; exact HN.out.2.2.2.1
    case hR => rintro pre A B ⟨h1, h2⟩ hc; exact ⟨h1, hc.keep h2 (by have := HN.out.2.2.2.1; omega)⟩
    case assign =>
      intro l y W K hK
      have hsem := @Oper.semAt_some
      gi_wp2
      exact hK
    case body =>
      rintro l pre y W hpre hpx hcw
      have hb5 := hcw.keep HK5.out HN.out.1
      have hb6 := hcw.keep HK6.out HN.out.2.1
      have k5 := cell_of_block (i := 0) hb5 rfl
      have k6 := cell_of_block (i := 0) hb6 rfl
      have f6 := frozen_of_block (i := 0) hb6
      simp only [List.getElem_toArray, List.getElem_cons_zero] at k5 k6
      have HS6 := Lib.hid (setCell_block (i := 0) (.int .i64 16) hb6)
      have HPR2 := Lib.hid hpre
      have HPX := Lib.hid hpx
      have hsem := @Oper.semAt_some
      clear hb5 hb6 hcw hpre hpx
      by_cases hyp : y = o
      · subst hyp
        gi_wp2
        exact ⟨⟨HPX.out.subset (by simp), HS6.out⟩, Chg.setCell W ⟨b6, 0, none⟩ _⟩
      · have z9 : (y == o) = false := beq_false_of_ne hyp
        gi_wp2
        exact ⟨⟨HPR2.out, Ne.symm hyp⟩, Chg.refl _ _⟩
    case done =>
      intro D W hD hi hcw hk
      have hb6 := hcw.keep HK6.out HN.out.2.1
      have hn := HN.out
      have hol := HOL.out
      have hg6 : gh ≠ b6 := by omega
      have hb6g := (Chg.setCell W ⟨gh, oh + i * 11 + 1 + 1, none⟩ (.int .i64 proto)).keep hb6 (show ¬ b6 = gh by omega)
      have k6 := cell_of_block (i := 0) hb6g rfl
      have f6 := frozen_of_block (i := 0) hb6g
      simp only [List.getElem_toArray, List.getElem_cons_zero] at k6
      have HS6 := Lib.hid (setCell_block (i := 0) (.int .i64 0) hb6g)
      have hoW : Here objR W gh (oh + i * 11 + 1) hp.slots[i].obj G := (HOB.out.still HCC.out).chg hcw (show ¬ gh = b1 + 1 by omega) (fun k hk e => by have := hol.2 k hk; omega)
      obtain ⟨vp, ve, vd, vs, HOC⟩ := objOpen hoW
      have p1 := HOC.c1
      have fp1 := hoW.frozen (oh + i * 11 + 1 + 1)
      have HP1 := Lib.hid (hoW.setPost objR_proto (y := proto) (v := .int .i64 proto) rfl)
      have hcW : Chg (fun k => w.heap.size ≤ k) w W := (HCC.out.trans hcw (fun _ _ x => x.elim) (fun i hi x => by omega))
      have HCWW := Lib.hid hcW
      have hDW := lt_of_block hk
      have hkD := ((Chg.setCell W ⟨gh, oh + i * 11 + 1 + 1, none⟩ (.int .i64 proto)).keep hk (show ¬ D = gh by omega))
      have HKD := Lib.hid (show ((W.setCell ⟨gh, oh + i * 11 + 1 + 1, none⟩ (.int .i64 proto)).setCell ⟨b6, 0, none⟩ (.int .i64 0)).heap[D]? = some (.deferred (some [])) from (Chg.setCell _ ⟨b6, 0, none⟩ _).keep hkD (show ¬ D = b6 by omega))
      have HDL := Lib.hid (show wc.heap.size ≤ D ∧ D < W.heap.size ∧ wc.heap.size ≤ W.heap.size from ⟨hD, hDW, hcw.size⟩)
      have hcf : ¬ (chainM hp 100001 proto).contains o = true := by simpa using hi
      have HNF := Lib.hid hcf
      clear hb6 hb6g hcw hk hkD hi hD hoW HOC hcf hn hol hcW hDW
      dsimp only
      go_wp2_with fail
      rw [bodyM_eq]
      refine ⟨by simp, .inl ⟨_, _, rfl, run_takeDeferred HKD.out, ?_⟩⟩
      have hn := HN.out
      have hdl := HDL.out
      have hol := HOL.out
      have hb6' := ((Chg.refl (fun k => k = D) ((W.setCell ⟨gh, oh + i * 11 + 1 + 1, none⟩ (.int .i64 proto)).setCell ⟨b6, 0, none⟩ (.int .i64 0))).putL D (.deferred none) (fun _ => rfl)).keep HS6.out (by omega)
      have k7 := cell_of_block (i := 0) hb6' rfl
      refine ⟨_, results_cell1 rfl _ _ b6 (.int .i64 0) (by rfl) (run_loadVarE _ _ _ k7), ?_⟩
      unfold LinkPost
      rw [if_neg HNF.out]
      refine ⟨rfl, HPT.out _ _ ?_⟩
      exact Post.late (S := fun k => k = b6 ∨ k = D) HCWW.out HP1.out hol.1 hol.2 (((Chg.setCell _ ⟨b6, 0, none⟩ _).mono (fun _ _ x => .inl x)).putL _ _ (fun _ => .inr rfl)) (fun k hk => by rcases hk with rfl | rfl <;> omega)
    case stop =>
      rintro D pre W hD ⟨hin, hb6⟩ hcw hk
      have hn := HN.out
      have hcf : (chainM hp 100001 proto).contains o = true := by simpa using hin
      gi_wp2
      rw [bodyM_eq]
      refine ⟨by simp, .inl ⟨_, _, rfl, run_takeDeferred hk, ?_⟩⟩
      have hb6' := ((Chg.refl (fun k => k = D) W).putL D (.deferred none) (fun _ => rfl)).keep hb6 (by omega)
      have k7 := cell_of_block (i := 0) hb6' rfl
      refine ⟨_, results_cell1 rfl _ _ b6 (.int .i64 16) (by rfl) (run_loadVarE _ _ _ k7), ?_⟩
      unfold LinkPost
      rw [if_pos hcf]
      refine ⟨rfl, ?_⟩
      exact ((HCC.out.trans hcw (fun _ _ x => x) (fun i hi x => by omega)).putL _ _ (fun h => by omega))
end Go.Proofs.YtjianickjahdnaaDoor
namespace Go.Proofs.YtjianickjahdnaaDoor
open Go.RowKit
set_option linter.unusedVariables false
set_option linter.unusedSimpArgs false

set_option maxHeartbeats 1600000 in
set_option maxRecDepth 100000 in
theorem put_elem (w : World) (b : Nat) (hp : Hp) (F : List Nat) (h : Int) (i : Nat) (key : ByteArray) (x y : Val) (H : Here hpR w b 0 hp F) (hi : -9223372036854775808 ≤ h ∧ h ≤ 9223372036854775807) (hs : slotOf hp h = some i) (hl : i < hp.slots.length) (hk : hp.slots[i].obj.kind = 1) (hle : hp.slots[i].obj.elems.length ≤ 20000)
    (HN : ∀ W, Chg (fun _ => False) w W → Calls Tryd.prog 37 #[.agg #[.int .i64 x.kind, .int .i64 x.int, .string x.str, .int .i64 x.ref]] W fun e w' => e = .returned (.agg #[.int .i64 y.kind, .int .i64 y.int, .string y.str, .int .i64 y.ref]) ∧ Chg (fun _ => False) W w') (hkl : ¬ key.toList = [108, 101, 110, 103, 116, 104]) (hks : key.size ≤ 1000000) (HT : Tabs w) (j : Nat) (hpz : posM key = (j : Int)) (hj : j < hp.slots[i].obj.elems.length) :
    Calls Tryd.prog 24 #[.pointer (some ⟨b, 0, none⟩), .int .i64 h, .string key, .agg #[.int .i64 x.kind, .int .i64 x.int, .string x.str, .int .i64 x.ref]] w fun e w' => e = .returned (.int .i64 0) ∧ Post hpR w b 0 (putO hp i { hp.slots[i].obj with elems := hp.slots[i].obj.elems.set j y }) F w' := by
  have HPS := Lib.hid (fun W (hc : Chg (fun _ => False) w W) => position_any key W hks (HT.still hc))
  have s1 : (key.toList == [108, 101, 110, 103, 116, 104]) = false := beq_false_of_ne hkl
  clear HT hks
  rw [hpz] at HPS
  clear hpz
  have hca := Chg.alloc (fun _ => False) w (.cells #[.int .i64 x.kind, .int .i64 x.int, .string x.str, .int .i64 x.ref] 36)
  have kb := alloc_block w (.cells #[.int .i64 x.kind, .int .i64 x.int, .string x.str, .int .i64 x.ref] 36)
  have HKB := Lib.hid kb
  have H2 := H.still hca
  obtain ⟨gh, oh, kh, c2, G, HOBJ0, hGF, hput⟩ := hpPut H hl
  obtain ⟨vp, ve, vd, vs, HOC⟩ := objOpen HOBJ0
  obtain ⟨ae, cape, rfl, -⟩ := HOC.re.slice
  have k0 := HOC.c0
  rw [hk] at k0
  have HC0 := Lib.hid k0
  have HC3 := Lib.hid HOC.c3
  have hat := hat_any _ b 0 hp F h _ H2 (by rw [Nat.zero_add]; exact hca.cell c2) hi
  rw [hs, show objPtr (.slice (some ⟨gh, oh, none⟩) hp.slots.length kh) (some i) = some ⟨gh, oh + i * 11 + 1, none⟩ from rfl] at hat
  have HAT := Lib.hid hat
  have HNN := Lib.hid HN
  generalize hx : hp.slots[i].obj = o_ at *
  have HX := Lib.hid hx
  have HCA := Lib.hid hca
  have HOB := Lib.hid HOBJ0
  have HPT := Lib.hid hput
  have HLT := Lib.hid HOBJ0.lt
  have HLE := Lib.hid hle
  clear kb hca H2 c2 HOBJ0 hGF hput HOC k0 hi hs H hx hk hat HN hle
  have HJ0 := Lib.hid hj
  clear hj
  go_enter Tryd.func24, Tryd.ntmps24
  go_upto_region 1 with fail
  generalize hw2 : w.alloc (.cells #[.int .i64 x.kind, .int .i64 x.int, .string x.str, .int .i64 x.ref] 36) = w1 at *
  generalize hb7 : w.heap.size = b7 at *
  have HB7E := Lib.hid hb7
  clear hw2 hb7
  go_upto_region 4 with (go_at_call 35; refine HAT.out.mono ?_; rintro e wa ⟨rfl, hca⟩)
  have HC1 := Lib.hid (HCA.out.trans' hca)
  have HKB2 := Lib.hid (hca.keep HKB.out (fun x => x))
  have k0 := cell_of_block (i := 0) HKB2.out rfl
  have k1 := cell_of_block (i := 1) HKB2.out rfl
  have k2 := cell_of_block (i := 2) HKB2.out rfl
  have k3 := cell_of_block (i := 3) HKB2.out rfl
  simp only [List.getElem_toArray, List.getElem_cons_zero, List.getElem_cons_succ] at k0 k1 k2 k3
  clear hca HAT HKB
  go_upto_region 5 with (go_at_call 37; refine (HNN.out _ HC1.out).mono ?_; rintro e wn ⟨rfl, hcn⟩; have hbn := hcn.keep HKB2.out (fun x => x); obtain ⟨z10, q0, z11, q1, z12, q2, z13, q3, hbf, hcs⟩ := store4 hbn (.int .i64 y.kind) (.int .i64 y.int) (.string y.str) (.int .i64 y.ref))
  have HB7 := Lib.hid hbf
  have hc4 : Chg (fun _ => False) w (((((wn.setCell ⟨b7, 0, none⟩ (.int .i64 y.kind)).setCell ⟨b7, 1, none⟩ (.int .i64 y.int)).setCell ⟨b7, 2, none⟩ (.string y.str)).setCell ⟨b7, 3, none⟩ (.int .i64 y.ref))) := (HC1.out.trans' hcn).trans hcs (fun _ _ x => x) (fun k hk e => by have := HB7E.out; omega)
  clear hbf hcs hcn hbn z10 q0 z11 q1 z12 q2 z13 q3 k0 k1 k2 k3
  generalize ((((wn.setCell ⟨b7, 0, none⟩ (.int .i64 y.kind)).setCell ⟨b7, 1, none⟩ (.int .i64 y.int)).setCell ⟨b7, 2, none⟩ (.string y.str)).setCell ⟨b7, 3, none⟩ (.int .i64 y.ref)) = w4 at *
  have c0 := hc4.cell HC0.out
  have HC4 := Lib.hid hc4
  clear hc4 HNN HKB2 HC1 HCA
  go_upto_region 12 with (go_at_call 21; refine (HPS.out _ HC4.out).mono ?_; rintro e w5 ⟨rfl, hc5⟩)
  have HC5 := Lib.hid (HC4.out.trans' hc5)
  have HY7 := Lib.hid (hc5.keep HB7.out (fun x => x))
  have HOB5 := Lib.hid (HOB.out.still HC5.out)
  clear hc5 HPS c0 HB7 HC4 HOB
  have j0 : (0 : Int) ≤ (j : Int) := by omega
  have j1 : (j : Int) < (o_.elems.length : Int) := by have := HJ0.out; omega
  have j2 : ¬ (o_.elems.length : Int) ≤ (j : Int) := by omega
  have HJ := HJ0
  have HOB6 := HOB5
  have HY6 := HY7
  have jn := HJ0.out
  obtain ⟨gp, opp, cp, hcv⟩ := HOB6.out.rowAt objR_elems (by show 0 < 10; decide) (by have := HJ.out; omega)
  have jn := HJ.out
  obtain ⟨G2, HEL, -, -, -, hwb⟩ := (HOB6.out.drew).rowElem objR_elems (by show 0 < 10; decide) (show w5.drew.cell? _ = _ from hcv) HJ.out
  have n0 := cell_of_block (i := 0) HY6.out rfl
  have n1 := cell_of_block (i := 1) HY6.out rfl
  have n2 := cell_of_block (i := 2) HY6.out rfl
  have n3 := cell_of_block (i := 3) HY6.out rfl
  simp only [List.getElem_toArray, List.getElem_cons_zero, List.getElem_cons_succ] at n0 n1 n2 n3
  have HS0 : Hid (w5.cell? ⟨gh, oh + i * 11 + 1 + 3, none⟩ = some (.slice (some ⟨gp, opp, none⟩) o_.elems.length cp) ∧ w5.cell? ⟨b7, 0, none⟩ = some (.int .i64 y.kind) ∧ w5.cell? ⟨b7, 1, none⟩ = some (.int .i64 y.int) ∧ w5.cell? ⟨b7, 2, none⟩ = some (.string y.str) ∧ w5.cell? ⟨b7, 3, none⟩ = some (.int .i64 y.ref)) := Lib.hid ⟨hcv, n0, n1, n2, n3⟩
  clear n0 n1 n2 n3
  have HWB := Lib.hid hwb
  have HELH := Lib.hid HEL
  clear hwb HEL
  go_upto_region 15 with fail
  clear hcv
  refine wp_region_held_split 7 (fun w' => w'.cell? ⟨gh, oh + i * 11 + 1 + 3, none⟩ = some (.slice (some ⟨gp, opp, none⟩) o_.elems.length cp) ∧ w'.cell? ⟨b7, 0, none⟩ = some (.int .i64 y.kind) ∧ w'.cell? ⟨b7, 1, none⟩ = some (.int .i64 y.int) ∧ w'.cell? ⟨b7, 2, none⟩ = some (.string y.str) ∧ w'.cell? ⟨b7, 3, none⟩ = some (.int .i64 y.ref)) (by kernel_rfl) (by kernel_rfl) ?_ (fun hHeld => ?_)
  · (first | exact HS0.out | exact HKS.out _ (Chg.refl _ _))
  simp only [List.take_succ_cons, List.take_zero]
  have HKS : Hid (∀ W, Chg (fun _ => False) w5.drew W → W.cell? ⟨gh, oh + i * 11 + 1 + 3, none⟩ = some (.slice (some ⟨gp, opp, none⟩) o_.elems.length cp) ∧ W.cell? ⟨b7, 0, none⟩ = some (.int .i64 y.kind) ∧ W.cell? ⟨b7, 1, none⟩ = some (.int .i64 y.int) ∧ W.cell? ⟨b7, 2, none⟩ = some (.string y.str) ∧ W.cell? ⟨b7, 3, none⟩ = some (.int .i64 y.ref)) := Lib.hid (fun W hc => ⟨hc.cell HS0.out.1, hc.cell HS0.out.2.1, hc.cell HS0.out.2.2.1, hc.cell HS0.out.2.2.2.1, hc.cell HS0.out.2.2.2.2⟩)
  have HWD : Hid (Chg (fun _ => False) w5 w5.drew) := Lib.hid (Chg.refl _ w5).drewR
  generalize w5.drew = wD at *
  refine wpAnyH_take (i := 0) (v := ?_) rfl (by kernel_rfl) (by kernel_rfl) (by kernel_rfl) (fun _ _ _ h => h) (Or.inl ⟨by rfl, ?_⟩) (by assumption) ?_
  rotate_left
  · (intro wq hSw; (try dsimp only at hSw); go_simp; (try with_reducible rfl))
  simp only [Act.put, List.getElem_toArray, List.getElem_cons_zero, List.getElem_cons_succ, List.setIfInBounds_toArray, List.set_cons_zero, List.set_cons_succ]
  refine wpAnyH_take (i := 1) (v := ?_) rfl (by kernel_rfl) (by kernel_rfl) (by kernel_rfl) (fun _ _ _ h => h) (Or.inl ⟨by rfl, ?_⟩) (by assumption) ?_
  rotate_left
  · (intro wq hSw; (try dsimp only at hSw); go_simp; (try with_reducible rfl))
  simp only [Act.put, List.getElem_toArray, List.getElem_cons_zero, List.getElem_cons_succ, List.setIfInBounds_toArray, List.set_cons_zero, List.set_cons_succ]
  refine wpAnyH_take (i := 2) (v := ?_) rfl (by kernel_rfl) (by kernel_rfl) (by kernel_rfl) (fun _ _ _ h => h) (Or.inl ⟨by rfl, ?_⟩) (by assumption) ?_
  rotate_left
  · (intro wq hSw; (try dsimp only at hSw); go_simp; (try with_reducible rfl))
  simp only [Act.put, List.getElem_toArray, List.getElem_cons_zero, List.getElem_cons_succ, List.setIfInBounds_toArray, List.set_cons_zero, List.set_cons_succ]
  refine wpAnyH_take (i := 3) (v := ?_) rfl (by kernel_rfl) (by kernel_rfl) (by kernel_rfl) (fun _ _ _ h => h) (Or.inl ⟨by rfl, ?_⟩) (by assumption) ?_
  rotate_left
  · (intro wq hSw; (try dsimp only at hSw); go_simp; (try with_reducible rfl))
  simp only [Act.put, List.getElem_toArray, List.getElem_cons_zero, List.getElem_cons_succ, List.setIfInBounds_toArray, List.set_cons_zero, List.set_cons_succ]
  refine wpAnyH_take (i := 4) (v := ?_) rfl (by kernel_rfl) (by kernel_rfl) (by kernel_rfl) (fun _ _ _ h => h) (Or.inl ⟨by rfl, ?_⟩) (by assumption) ?_
  rotate_left
  · (intro wq hSw; (try dsimp only at hSw); go_simp; (try with_reducible rfl))
  simp only [Act.put, List.getElem_toArray, List.getElem_cons_zero, List.getElem_cons_succ, List.setIfInBounds_toArray, List.set_cons_zero, List.set_cons_succ]
  refine wpAnyH_take (i := 5) (v := ?_) rfl (by kernel_rfl) (by kernel_rfl) (by kernel_rfl) (fun _ _ _ h => h) (Or.inl ⟨by rfl, ?_⟩) (by assumption) ?_
  rotate_left
  · (intro wq hSw; (try dsimp only at hSw); go_simp; (try with_reducible rfl))
  simp only [Act.put, List.getElem_toArray, List.getElem_cons_zero, List.getElem_cons_succ, List.setIfInBounds_toArray, List.set_cons_zero, List.set_cons_succ]
  refine wpAnyH_take (i := 6) (v := ?_) rfl (by kernel_rfl) (by kernel_rfl) (by kernel_rfl) (fun _ _ _ h => h) (Or.inl ⟨by rfl, ?_⟩) (by assumption) ?_
  rotate_left
  · (intro wq hSw; (try dsimp only at hSw); go_simp; (try with_reducible rfl))
  simp only [Act.put, List.getElem_toArray, List.getElem_cons_zero, List.getElem_cons_succ, List.setIfInBounds_toArray, List.set_cons_zero, List.set_cons_succ]
  refine wpAnyH_done (by kernel_rfl) ?_ _
  change wpList _ _ _ _ _ _
  simp only [List.drop_succ_cons, List.drop_zero]
  have P1 := HELH.out.setPost valR_kind (y := y.kind) (v := .int .i64 y.kind) rfl
  have P2 := P1.then (fun F' H' => H'.setPost valR_int (y := y.int) (v := .int .i64 y.int) rfl)
  have P3 := P2.then (fun F' H' => H'.setPost valR_str (y := y.str) (v := .string y.str) rfl)
  have P4 := P3.then (fun F' H' => H'.setPost valR_ref (y := y.ref) (v := .int .i64 y.ref) rfl)
  obtain ⟨cB, TB, hbB, hszB⟩ : ∃ c T, wD.heap[gp]? = some (.cells c T (0, 0)) ∧ opp + j * 4 + 4 ≤ c.size := by
    obtain ⟨c, T, hh⟩ := HELH.out.size
    rcases hh with hh | hh
    · exact ⟨c, T, hh.1, by have := hh.2.2; show opp + j * 4 + 4 ≤ _; exact this⟩
    · exact absurd hh (by decide)
  obtain ⟨u0, u1, u2, u3, ⟨e0, f0⟩, ⟨e1, f1⟩, ⟨e2, f2⟩, e3, f3⟩ := store4At (o := opp + j * 4) hbB hszB (.int .i64 y.kind) (.int .i64 y.int) (.string y.str) (.int .i64 y.ref)
  have HP4 := Lib.hid P4
  clear P1 P2 P3 P4
  go_wp2_with fail
  go_ret
  obtain ⟨F4, h1, h2⟩ := HP4.out
  have hpl := (HWB.out _ _ F4 h1 h2).1
  exact ⟨rfl, HPT.out _ _ (Post.pre (HC5.out.trans' HWD.out) hpl)⟩
set_option maxHeartbeats 1600000 in
set_option maxRecDepth 100000 in
theorem put_grow (w : World) (b : Nat) (hp : Hp) (F : List Nat) (h : Int) (i : Nat) (key : ByteArray) (x y : Val) (H : Here hpR w b 0 hp F) (hi : -9223372036854775808 ≤ h ∧ h ≤ 9223372036854775807) (hs : slotOf hp h = some i) (hl : i < hp.slots.length) (hk : hp.slots[i].obj.kind = 1) (hle : hp.slots[i].obj.elems.length ≤ 20000)
    (HN : ∀ W, Chg (fun _ => False) w W → Calls Tryd.prog 37 #[.agg #[.int .i64 x.kind, .int .i64 x.int, .string x.str, .int .i64 x.ref]] W fun e w' => e = .returned (.agg #[.int .i64 y.kind, .int .i64 y.int, .string y.str, .int .i64 y.ref]) ∧ Chg (fun _ => False) W w') (hkl : ¬ key.toList = [108, 101, 110, 103, 116, 104]) (hks : key.size ≤ 1000000) (HT : Tabs w) (j : Nat) (hpz : posM key = (j : Int)) (hj : hp.slots[i].obj.elems.length ≤ j) (hj2 : j < 10000) :
    Calls Tryd.prog 24 #[.pointer (some ⟨b, 0, none⟩), .int .i64 h, .string key, .agg #[.int .i64 x.kind, .int .i64 x.int, .string x.str, .int .i64 x.ref]] w fun e w' => e = .returned (.int .i64 0) ∧ Post hpR w b 0 (putO hp i { hp.slots[i].obj with elems := (resizeL hp.slots[i].obj.elems (j + 1)).set j y }) F w' := by
  have HPS := Lib.hid (fun W (hc : Chg (fun _ => False) w W) => position_any key W hks (HT.still hc))
  have s1 : (key.toList == [108, 101, 110, 103, 116, 104]) = false := beq_false_of_ne hkl
  clear HT hks
  rw [hpz] at HPS
  clear hpz
  have hca := Chg.alloc (fun _ => False) w (.cells #[.int .i64 x.kind, .int .i64 x.int, .string x.str, .int .i64 x.ref] 36)
  have kb := alloc_block w (.cells #[.int .i64 x.kind, .int .i64 x.int, .string x.str, .int .i64 x.ref] 36)
  have HKB := Lib.hid kb
  have H2 := H.still hca
  obtain ⟨gh, oh, kh, c2, G, HOBJ0, hGF, hput⟩ := hpPut H hl
  obtain ⟨vp, ve, vd, vs, HOC⟩ := objOpen HOBJ0
  obtain ⟨ae, cape, rfl, -⟩ := HOC.re.slice
  have k0 := HOC.c0
  rw [hk] at k0
  have HC0 := Lib.hid k0
  have HC3 := Lib.hid HOC.c3
  have hat := hat_any _ b 0 hp F h _ H2 (by rw [Nat.zero_add]; exact hca.cell c2) hi
  rw [hs, show objPtr (.slice (some ⟨gh, oh, none⟩) hp.slots.length kh) (some i) = some ⟨gh, oh + i * 11 + 1, none⟩ from rfl] at hat
  have HAT := Lib.hid hat
  have HNN := Lib.hid HN
  generalize hx : hp.slots[i].obj = o_ at *
  have HX := Lib.hid hx
  have HCA := Lib.hid hca
  have HOB := Lib.hid HOBJ0
  have HPT := Lib.hid hput
  have HLT := Lib.hid HOBJ0.lt
  have HLE := Lib.hid hle
  clear kb hca H2 c2 HOBJ0 hGF hput HOC k0 hi hs H hx hk hat HN hle
  have HJ0 := Lib.hid hj
  have HJ2 := Lib.hid hj2
  clear hj hj2
  go_enter Tryd.func24, Tryd.ntmps24
  go_upto_region 1 with fail
  generalize hw2 : w.alloc (.cells #[.int .i64 x.kind, .int .i64 x.int, .string x.str, .int .i64 x.ref] 36) = w1 at *
  generalize hb7 : w.heap.size = b7 at *
  have HB7E := Lib.hid hb7
  clear hw2 hb7
  go_upto_region 4 with (go_at_call 35; refine HAT.out.mono ?_; rintro e wa ⟨rfl, hca⟩)
  have HC1 := Lib.hid (HCA.out.trans' hca)
  have HKB2 := Lib.hid (hca.keep HKB.out (fun x => x))
  have k0 := cell_of_block (i := 0) HKB2.out rfl
  have k1 := cell_of_block (i := 1) HKB2.out rfl
  have k2 := cell_of_block (i := 2) HKB2.out rfl
  have k3 := cell_of_block (i := 3) HKB2.out rfl
  simp only [List.getElem_toArray, List.getElem_cons_zero, List.getElem_cons_succ] at k0 k1 k2 k3
  clear hca HAT HKB
  go_upto_region 5 with (go_at_call 37; refine (HNN.out _ HC1.out).mono ?_; rintro e wn ⟨rfl, hcn⟩; have hbn := hcn.keep HKB2.out (fun x => x); obtain ⟨z10, q0, z11, q1, z12, q2, z13, q3, hbf, hcs⟩ := store4 hbn (.int .i64 y.kind) (.int .i64 y.int) (.string y.str) (.int .i64 y.ref))
  have HB7 := Lib.hid hbf
  have hc4 : Chg (fun _ => False) w (((((wn.setCell ⟨b7, 0, none⟩ (.int .i64 y.kind)).setCell ⟨b7, 1, none⟩ (.int .i64 y.int)).setCell ⟨b7, 2, none⟩ (.string y.str)).setCell ⟨b7, 3, none⟩ (.int .i64 y.ref))) := (HC1.out.trans' hcn).trans hcs (fun _ _ x => x) (fun k hk e => by have := HB7E.out; omega)
  clear hbf hcs hcn hbn z10 q0 z11 q1 z12 q2 z13 q3 k0 k1 k2 k3
  generalize ((((wn.setCell ⟨b7, 0, none⟩ (.int .i64 y.kind)).setCell ⟨b7, 1, none⟩ (.int .i64 y.int)).setCell ⟨b7, 2, none⟩ (.string y.str)).setCell ⟨b7, 3, none⟩ (.int .i64 y.ref)) = w4 at *
  have c0 := hc4.cell HC0.out
  have HC4 := Lib.hid hc4
  clear hc4 HNN HKB2 HC1 HCA
  go_upto_region 12 with (go_at_call 21; refine (HPS.out _ HC4.out).mono ?_; rintro e w5 ⟨rfl, hc5⟩)
  have HC5 := Lib.hid (HC4.out.trans' hc5)
  have HY7 := Lib.hid (hc5.keep HB7.out (fun x => x))
  have HOB5 := Lib.hid (HOB.out.still HC5.out)
  clear hc5 HPS c0 HB7 HC4 HOB
  have j0 : (0 : Int) ≤ (j : Int) := by omega
  have j1 : ¬ (j : Int) < (o_.elems.length : Int) := by have := HJ0.out; omega
  have j2 : (o_.elems.length : Int) ≤ (j : Int) := by have := HJ0.out; omega
  have wj : IntKind.i64.wrap ((j : Int) + 1) = (j : Int) + 1 := IntWalk.i64_in _ (by have := HJ2.out; omega)
  have c3 := HC5.out.cell HC3.out
  have HRS := Lib.hid (show Calls Tryd.prog 44 #[.pointer (some ⟨gh, oh + i * 11 + 1, none⟩), .int .i64 ((j : Int) + 1)] w5 _ from resize_any w5 gh (oh + i * 11 + 1) o_ G (j + 1) HOB5.out HLE.out (by have := HJ2.out; omega))
  go_upto_region 14 with fail
  go_upto_region 15 with (go_at_call 44; refine HRS.out.mono ?_; rintro e w6 ⟨rfl, hp6⟩)
  obtain ⟨G6, HOBJ6, hst6⟩ := hp6
  have HY6 := Lib.hid (hst6.chg.keep HY7.out (fun hk => by
    have h1 := HLT.out
    have h2 := HB7E.out
    rcases hk with rfl | hk
    · omega
    · have := h1.2 _ hk; omega))
  have HST6 := Lib.hid hst6
  clear hst6 HRS c3 j1 j2
  obtain ⟨o2, ho2⟩ : ∃ o2, o2 = { o_ with elems := resizeL o_.elems (j + 1) } := ⟨_, rfl⟩
  have HO2 := Lib.hid ho2
  rw [← ho2] at HOBJ6
  have HOB6 := Lib.hid HOBJ6
  have hl2 : o2.elems.length = j + 1 := by rw [ho2]; exact resizeL_len _ _
  have HJ : Hid (j < o2.elems.length) := Lib.hid (by omega)
  have j1 : (j : Int) < (o2.elems.length : Int) := by omega
  clear hl2 HOBJ6 ho2
  obtain ⟨gp, opp, cp, hcv⟩ := HOB6.out.rowAt objR_elems (by show 0 < 10; decide) (by have := HJ.out; omega)
  have jn := HJ.out
  obtain ⟨G2, HEL, -, -, -, hwb⟩ := (HOB6.out.drew).rowElem objR_elems (by show 0 < 10; decide) (show w6.drew.cell? _ = _ from hcv) HJ.out
  have n0 := cell_of_block (i := 0) HY6.out rfl
  have n1 := cell_of_block (i := 1) HY6.out rfl
  have n2 := cell_of_block (i := 2) HY6.out rfl
  have n3 := cell_of_block (i := 3) HY6.out rfl
  simp only [List.getElem_toArray, List.getElem_cons_zero, List.getElem_cons_succ] at n0 n1 n2 n3
  have HS0 : Hid (w6.cell? ⟨gh, oh + i * 11 + 1 + 3, none⟩ = some (.slice (some ⟨gp, opp, none⟩) o2.elems.length cp) ∧ w6.cell? ⟨b7, 0, none⟩ = some (.int .i64 y.kind) ∧ w6.cell? ⟨b7, 1, none⟩ = some (.int .i64 y.int) ∧ w6.cell? ⟨b7, 2, none⟩ = some (.string y.str) ∧ w6.cell? ⟨b7, 3, none⟩ = some (.int .i64 y.ref)) := Lib.hid ⟨hcv, n0, n1, n2, n3⟩
  clear n0 n1 n2 n3
  have HWB := Lib.hid hwb
  have HELH := Lib.hid HEL
  clear hwb HEL
  go_upto_region 15 with fail
  clear hcv
  refine wp_region_held_split 7 (fun w' => w'.cell? ⟨gh, oh + i * 11 + 1 + 3, none⟩ = some (.slice (some ⟨gp, opp, none⟩) o2.elems.length cp) ∧ w'.cell? ⟨b7, 0, none⟩ = some (.int .i64 y.kind) ∧ w'.cell? ⟨b7, 1, none⟩ = some (.int .i64 y.int) ∧ w'.cell? ⟨b7, 2, none⟩ = some (.string y.str) ∧ w'.cell? ⟨b7, 3, none⟩ = some (.int .i64 y.ref)) (by kernel_rfl) (by kernel_rfl) ?_ (fun hHeld => ?_)
  · (first | exact HS0.out | exact HKS.out _ (Chg.refl _ _))
  simp only [List.take_succ_cons, List.take_zero]
  have HKS : Hid (∀ W, Chg (fun _ => False) w6.drew W → W.cell? ⟨gh, oh + i * 11 + 1 + 3, none⟩ = some (.slice (some ⟨gp, opp, none⟩) o2.elems.length cp) ∧ W.cell? ⟨b7, 0, none⟩ = some (.int .i64 y.kind) ∧ W.cell? ⟨b7, 1, none⟩ = some (.int .i64 y.int) ∧ W.cell? ⟨b7, 2, none⟩ = some (.string y.str) ∧ W.cell? ⟨b7, 3, none⟩ = some (.int .i64 y.ref)) := Lib.hid (fun W hc => ⟨hc.cell HS0.out.1, hc.cell HS0.out.2.1, hc.cell HS0.out.2.2.1, hc.cell HS0.out.2.2.2.1, hc.cell HS0.out.2.2.2.2⟩)
  have HWD : Hid (Chg (fun _ => False) w6 w6.drew) := Lib.hid (Chg.refl _ w6).drewR
  generalize w6.drew = wD at *
  refine wpAnyH_take (i := 0) (v := ?_) rfl (by kernel_rfl) (by kernel_rfl) (by kernel_rfl) (fun _ _ _ h => h) (Or.inl ⟨by rfl, ?_⟩) (by assumption) ?_
  rotate_left
  · (intro wq hSw; (try dsimp only at hSw); go_simp; (try with_reducible rfl))
  simp only [Act.put, List.getElem_toArray, List.getElem_cons_zero, List.getElem_cons_succ, List.setIfInBounds_toArray, List.set_cons_zero, List.set_cons_succ]
  refine wpAnyH_take (i := 1) (v := ?_) rfl (by kernel_rfl) (by kernel_rfl) (by kernel_rfl) (fun _ _ _ h => h) (Or.inl ⟨by rfl, ?_⟩) (by assumption) ?_
  rotate_left
  · (intro wq hSw; (try dsimp only at hSw); go_simp; (try with_reducible rfl))
  simp only [Act.put, List.getElem_toArray, List.getElem_cons_zero, List.getElem_cons_succ, List.setIfInBounds_toArray, List.set_cons_zero, List.set_cons_succ]
  refine wpAnyH_take (i := 2) (v := ?_) rfl (by kernel_rfl) (by kernel_rfl) (by kernel_rfl) (fun _ _ _ h => h) (Or.inl ⟨by rfl, ?_⟩) (by assumption) ?_
  rotate_left
  · (intro wq hSw; (try dsimp only at hSw); go_simp; (try with_reducible rfl))
  simp only [Act.put, List.getElem_toArray, List.getElem_cons_zero, List.getElem_cons_succ, List.setIfInBounds_toArray, List.set_cons_zero, List.set_cons_succ]
  refine wpAnyH_take (i := 3) (v := ?_) rfl (by kernel_rfl) (by kernel_rfl) (by kernel_rfl) (fun _ _ _ h => h) (Or.inl ⟨by rfl, ?_⟩) (by assumption) ?_
  rotate_left
  · (intro wq hSw; (try dsimp only at hSw); go_simp; (try with_reducible rfl))
  simp only [Act.put, List.getElem_toArray, List.getElem_cons_zero, List.getElem_cons_succ, List.setIfInBounds_toArray, List.set_cons_zero, List.set_cons_succ]
  refine wpAnyH_take (i := 4) (v := ?_) rfl (by kernel_rfl) (by kernel_rfl) (by kernel_rfl) (fun _ _ _ h => h) (Or.inl ⟨by rfl, ?_⟩) (by assumption) ?_
  rotate_left
  · (intro wq hSw; (try dsimp only at hSw); go_simp; (try with_reducible rfl))
  simp only [Act.put, List.getElem_toArray, List.getElem_cons_zero, List.getElem_cons_succ, List.setIfInBounds_toArray, List.set_cons_zero, List.set_cons_succ]
  refine wpAnyH_take (i := 5) (v := ?_) rfl (by kernel_rfl) (by kernel_rfl) (by kernel_rfl) (fun _ _ _ h => h) (Or.inl ⟨by rfl, ?_⟩) (by assumption) ?_
  rotate_left
  · (intro wq hSw; (try dsimp only at hSw); go_simp; (try with_reducible rfl))
  simp only [Act.put, List.getElem_toArray, List.getElem_cons_zero, List.getElem_cons_succ, List.setIfInBounds_toArray, List.set_cons_zero, List.set_cons_succ]
  refine wpAnyH_take (i := 6) (v := ?_) rfl (by kernel_rfl) (by kernel_rfl) (by kernel_rfl) (fun _ _ _ h => h) (Or.inl ⟨by rfl, ?_⟩) (by assumption) ?_
  rotate_left
  · (intro wq hSw; (try dsimp only at hSw); go_simp; (try with_reducible rfl))
  simp only [Act.put, List.getElem_toArray, List.getElem_cons_zero, List.getElem_cons_succ, List.setIfInBounds_toArray, List.set_cons_zero, List.set_cons_succ]
  refine wpAnyH_done (by kernel_rfl) ?_ _
  change wpList _ _ _ _ _ _
  simp only [List.drop_succ_cons, List.drop_zero]
  have P1 := HELH.out.setPost valR_kind (y := y.kind) (v := .int .i64 y.kind) rfl
  have P2 := P1.then (fun F' H' => H'.setPost valR_int (y := y.int) (v := .int .i64 y.int) rfl)
  have P3 := P2.then (fun F' H' => H'.setPost valR_str (y := y.str) (v := .string y.str) rfl)
  have P4 := P3.then (fun F' H' => H'.setPost valR_ref (y := y.ref) (v := .int .i64 y.ref) rfl)
  obtain ⟨cB, TB, hbB, hszB⟩ : ∃ c T, wD.heap[gp]? = some (.cells c T (0, 0)) ∧ opp + j * 4 + 4 ≤ c.size := by
    obtain ⟨c, T, hh⟩ := HELH.out.size
    rcases hh with hh | hh
    · exact ⟨c, T, hh.1, by have := hh.2.2; show opp + j * 4 + 4 ≤ _; exact this⟩
    · exact absurd hh (by decide)
  obtain ⟨u0, u1, u2, u3, ⟨e0, f0⟩, ⟨e1, f1⟩, ⟨e2, f2⟩, e3, f3⟩ := store4At (o := opp + j * 4) hbB hszB (.int .i64 y.kind) (.int .i64 y.int) (.string y.str) (.int .i64 y.ref)
  have HP4 := Lib.hid P4
  clear P1 P2 P3 P4
  go_wp2_with fail
  go_ret
  obtain ⟨F4, h1, h2⟩ := HP4.out
  have hpl := (HWB.out _ _ F4 h1 h2).1
  obtain ⟨F5, h5, h6⟩ := Post.pre HWD.out hpl
  have hfin : Post objR w gh (oh + i * 11 + 1) _ G _ := Post.pre HC5.out ⟨F5, h5, HST6.out.trans h6⟩
  rw [HO2.out] at hfin
  exact ⟨rfl, HPT.out _ _ hfin⟩
end Go.Proofs.YtjianickjahdnaaDoor
namespace Go.Proofs.YtjianickjahdnaaDoor
open Go.RowKit
set_option linter.unusedVariables false
set_option linter.unusedSimpArgs false

def hpB : Hp := addedM (newM 5 3) ⟨true, newObj ((1 : Nat) : Int) ((newM 5 3).protos.getD 1 0)⟩
theorem hpB_len : hpB.slots.length = 13 := rfl
theorem hpB_kind {hh : 12 < hpB.slots.length} : hpB.slots[12].obj.kind = 1 := rfl
theorem hpB_elems {hh : 12 < hpB.slots.length} : hpB.slots[12].obj.elems = [] := rfl
theorem hpB_slot : slotOf hpB (handleM 5 3 12) = some 12 := by kernel_rfl
theorem posOne : posM ⟨#[49]⟩ = ((1 : Nat) : Int) := by kernel_rfl
theorem hB_in : -9223372036854775808 ≤ handleM 5 3 12 ∧ handleM 5 3 12 ≤ 9223372036854775807 := by
  have := handle_in 5 3 (i := 12) (by omega)
  have e : handleM 5 3 ((12 : Nat) : Int) = handleM 5 3 12 := rfl
  omega
def hpC (x : Obj) : Hp := putO hpB 12 x
theorem hpC_len (x : Obj) : (hpC x).slots.length = 13 := rfl
theorem hpC_obj (x : Obj) {hh : 12 < (hpC x).slots.length} : (hpC x).slots[12].obj = x := rfl
def xB : Obj := { hpB.slots[12].obj with elems := (resizeL hpB.slots[12].obj.elems 2).set 1 ⟨3, 7, ⟨#[]⟩, 0⟩ }
theorem xB_kind : xB.kind = 1 := rfl
theorem xB_len : xB.elems.length = 2 := rfl
theorem putB (w : World) (bh : Nat) (F : List Nat) (H : Here hpR w bh 0 hpB F) (HT : Tabs w) : Calls Tryd.prog 24 #[.pointer (some ⟨bh, 0, none⟩), .int .i64 (handleM 5 3 12), .string ⟨#[49]⟩, .agg #[.int .i64 3, .int .i64 7, .string ⟨#[]⟩, .int .i64 0]] w fun e w' => e = .returned (.int .i64 0) ∧ Post hpR w bh 0 (hpC xB) F w' :=
  put_grow w bh hpB F (handleM 5 3 12) 12 ⟨#[49]⟩ ⟨3, 7, ⟨#[]⟩, 0⟩ ⟨3, 7, ⟨#[]⟩, 0⟩ H hB_in hpB_slot (by rw [hpB_len]; omega) hpB_kind (by rw [hpB_elems]; simp) (fun W _ => normal_int 7 W) (by rw [show (⟨#[49]⟩ : ByteArray).toList = [49] from by kernel_rfl]; decide) (by decide) HT 1 posOne (by rw [hpB_elems]; simp) (by omega)
theorem ownB (w : World) (bh : Nat) (F : List Nat) (H : Here hpR w bh 0 (hpC xB) F) : Calls Tryd.prog 23 #[.pointer (some ⟨bh, 0, none⟩), .int .i64 (handleM 5 3 12), .string ⟨#[108, 101, 110, 103, 116, 104]⟩] w fun e w' => e = .returned (.tuple #[.agg #[.int .i64 3, .int .i64 2, .string ⟨#[]⟩, .int .i64 0], .bool true]) ∧ Chg (fun _ => False) w w' :=
  own_len w bh (hpC xB) F (handleM 5 3 12) 12 H hB_in (show slotOf (hpC xB) _ = _ by kernel_rfl) (by rw [hpC_len]; omega) (by rw [hpC_obj]; exact xB_kind)
set_option maxHeartbeats 3200000 in
set_option maxRecDepth 100000 in
theorem awake_heap (w : World) (HT : Tabs w) : Calls Tryd.prog 9 #[] w fun e w' => e = .returned (.bool true) ∧ Chg (fun _ => False) w w' := by
  have HN := Lib.hid (new_any 5 3 w)
  have HTT := Lib.hid HT
  have HOF := Lib.hid (fun (h : Int) (W : World) => vofA h W)
  clear HT
  go_enter Tryd.func9, Tryd.ntmps9
  go_upto_region 2 with (go_at_call 10; refine HN.out.mono ?_; rintro e w1 ⟨cs, F, rfl, hown, hnd, hlo, hch⟩; have hown' := hown; obtain ⟨v1, v2, v3, F1, F2, F3, rfl, o1, o2, o3, -⟩ := hown'; obtain ⟨x1, y1, p1⟩ := Rep.opened o1; obtain ⟨n1, m1, rfl, -⟩ := p1.val; obtain ⟨x2, y2, p2⟩ := Rep.opened o2; obtain ⟨n2, m2, rfl, -⟩ := p2.val; obtain ⟨x3, y3, p3⟩ := Rep.opened o3; obtain ⟨n3, m3, rfl, -⟩ := p3.val; clear o1 o2 o3 p1 p2 p3)
  have HO0 : Own hpR w (w1.alloc (.cells _ 30)) w1.heap.size 0 (newM 5 3) F := ⟨Here.made w1 30 _ (newM 5 3) F hown hnd, hch.allocR _, hch.size, hlo⟩
  have HO := Lib.hid HO0
  clear HN hown hnd hlo hch HO0
  generalize w1.alloc (.cells #[.int .i64 (newM 5 3).base, .int .i64 (newM 5 3).stride, .slice n1 (newM 5 3).slots.length m1, .slice n2 (newM 5 3).free.length m2, .int .i64 (newM 5 3).live, .int .i64 (newM 5 3).global, .int .i64 (newM 5 3).texts, .slice n3 (newM 5 3).protos.length m3] 30) = W2 at *
  generalize w1.heap.size = bh at *
  have HMK := Lib.hid (make_any W2 bh (newM 5 3) F 1 HO.out.here rfl rfl (by show 12 < 100000; omega) rfl (by omega))
  go_upto_region 3 with (go_at_call 11; refine HMK.out.mono ?_; rintro e W3 ⟨rfl, hA⟩)
  obtain ⟨F3, HO3⟩ : ∃ F3, Own hpR w W3 bh 0 hpB F3 := hA.post.own HO.out
  have H3 := Lib.hid HO3
  clear HMK hA HO HO3
  rw [show handleM (newM 5 3).base (newM 5 3).stride (newM 5 3).slots.length = handleM 5 3 12 from rfl]
  go_upto_region 4 with (first
    | (go_at_call 25; refine (HOF.out _ _).mono ?_; rintro e W4 ⟨rfl, hc4⟩; have H4 := Lib.hid (show Own hpR w W4 bh 0 hpB F3 from ⟨H3.out.here.still hc4, H3.out.chg.trans' hc4, H3.out.lo, H3.out.los⟩); clear hc4)
    | (go_at_call 24; refine (putB W4 bh F3 H4.out.here (HTT.out.still H4.out.chg)).mono ?_; rintro e W5 ⟨rfl, hp5⟩))
  obtain ⟨F5, HO5⟩ := hp5.own H4.out
  have H5 := Lib.hid HO5
  clear hp5 HO5
  have HOW := Lib.hid (ownB W5 bh F5 H5.out.here)
  go_upto_region 5 with (go_at_call 23; refine HOW.out.mono ?_; rintro e W6 ⟨rfl, hc6⟩)
  have hb5 := alloc_block W6 (.cells #[.int .i64 3, .int .i64 2, .string ⟨#[]⟩, .int .i64 0] 36)
  have HCO := Lib.hid (hc6.trans' (Chg.alloc (fun _ => False) W6 (.cells #[.int .i64 3, .int .i64 2, .string ⟨#[]⟩, .int .i64 0] 36)))
  generalize W6.alloc (.cells #[.int .i64 3, .int .i64 2, .string ⟨#[]⟩, .int .i64 0] 36) = w5 at *
  generalize W6.heap.size = b5 at *
  have m0 := cell_of_block (i := 0) hb5 rfl
  have m1 := cell_of_block (i := 1) hb5 rfl
  have m2 := cell_of_block (i := 2) hb5 rfl
  have m3 := cell_of_block (i := 3) hb5 rfl
  simp only [List.getElem_toArray, List.getElem_cons_zero, List.getElem_cons_succ] at m0 m1 m2 m3
  obtain ⟨-, -, -, -, -, c5, -, p7, k7, c7⟩ := hpCells H5.out.here
  rw [Nat.zero_add] at c5
  change W5.cell? ⟨bh, 5, none⟩ = some (.int .i64 (handleM 5 3 11)) at c5
  have HS0 : Hid (w5.cell? ⟨b5, 0, none⟩ = some (.int .i64 3) ∧ w5.cell? ⟨b5, 1, none⟩ = some (.int .i64 2) ∧ w5.cell? ⟨b5, 2, none⟩ = some (.string ⟨#[]⟩) ∧ w5.cell? ⟨b5, 3, none⟩ = some (.int .i64 0) ∧ w5.cell? ⟨bh, 5, none⟩ = some (.int .i64 (handleM 5 3 11))) := Lib.hid ⟨m0, m1, m2, m3, HCO.out.cell c5⟩
  have hg : (handleM 5 3 11 != 0) = true := by kernel_rfl
  have hg2 : (handleM 5 3 11 == 0) = false := by kernel_rfl
  have hg3 : ¬ handleM 5 3 11 = 0 := by decide
  have HCZ := Lib.hid (H5.out.chg.trans' HCO.out)
  clear m0 m1 m2 m3 hb5 hc6 c5 c7 HOW H3 H4
  generalize handleM 5 3 11 = hgl at *
  refine wp_region_held_split 19 (fun w' => w'.cell? ⟨b5, 0, none⟩ = some (.int .i64 3) ∧ w'.cell? ⟨b5, 1, none⟩ = some (.int .i64 2) ∧ w'.cell? ⟨b5, 2, none⟩ = some (.string ⟨#[]⟩) ∧ w'.cell? ⟨b5, 3, none⟩ = some (.int .i64 0) ∧ w'.cell? ⟨bh, 5, none⟩ = some (.int .i64 hgl)) (by kernel_rfl) (by kernel_rfl) ?_ (fun hHeld => ?_)
  · (first | exact HS0.out | exact HKS.out _ HCC.out)
  simp only [List.take_succ_cons, List.take_zero]
  have HKS : Hid (∀ W, Chg (fun _ => False) w5.drew W → W.cell? ⟨b5, 0, none⟩ = some (.int .i64 3) ∧ W.cell? ⟨b5, 1, none⟩ = some (.int .i64 2) ∧ W.cell? ⟨b5, 2, none⟩ = some (.string ⟨#[]⟩) ∧ W.cell? ⟨b5, 3, none⟩ = some (.int .i64 0) ∧ W.cell? ⟨bh, 5, none⟩ = some (.int .i64 hgl)) := Lib.hid (fun W hc => ⟨hc.cell HS0.out.1, hc.cell HS0.out.2.1, hc.cell HS0.out.2.2.1, hc.cell HS0.out.2.2.2.1, hc.cell HS0.out.2.2.2.2⟩)
  have HWD : Hid (Chg (fun _ => False) w5 w5.drew) := Lib.hid (Chg.refl _ w5).drewR
  generalize w5.drew = wD at *
  have HCC := Lib.hid (Chg.refl (fun _ => False) wD)
  refine wpAnyH_take (i := 0) (v := ?_) rfl (by kernel_rfl) (by kernel_rfl) (by kernel_rfl) (fun _ _ _ h => h) (Or.inl ⟨by rfl, ?_⟩) (by assumption) ?_
  rotate_left
  · (intro wq hSw; (try dsimp only at hSw); go_simp; (try with_reducible rfl))
  simp only [Act.put, List.getElem_toArray, List.getElem_cons_zero, List.getElem_cons_succ, List.setIfInBounds_toArray, List.set_cons_zero, List.set_cons_succ]
  refine wpAnyH_take (i := 1) (v := ?_) rfl (by kernel_rfl) (by kernel_rfl) (by kernel_rfl) (fun _ _ _ h => h) (Or.inl ⟨by rfl, ?_⟩) (by assumption) ?_
  rotate_left
  · (intro wq hSw; (try dsimp only at hSw); go_simp; (try with_reducible rfl))
  simp only [Act.put, List.getElem_toArray, List.getElem_cons_zero, List.getElem_cons_succ, List.setIfInBounds_toArray, List.set_cons_zero, List.set_cons_succ]
  refine wpAnyH_take (i := 2) (v := ?_) rfl (by kernel_rfl) (by kernel_rfl) (by kernel_rfl) (fun _ _ _ h => h) (Or.inl ⟨by rfl, ?_⟩) (by assumption) ?_
  rotate_left
  · (intro wq hSw; (try dsimp only at hSw); go_simp; (try with_reducible rfl))
  simp only [Act.put, List.getElem_toArray, List.getElem_cons_zero, List.getElem_cons_succ, List.setIfInBounds_toArray, List.set_cons_zero, List.set_cons_succ]
  first
  | (refine wpAnyH_take (i := 3) (v := undef) rfl (by kernel_rfl) (by kernel_rfl) (by kernel_rfl) (fun _ _ _ h => h) (Or.inr ⟨by rfl, rfl⟩) (by assumption) ?_)
  | (refine wpAnyH_take (i := 3) (v := ?_) rfl (by kernel_rfl) (by kernel_rfl) (by kernel_rfl) (fun _ _ _ h => h) (Or.inl ⟨by rfl, ?_⟩) (by assumption) ?_; rotate_left; (focus (intro wq hSw; (try dsimp only at hSw); go_simp; (try with_reducible rfl))))
  simp only [Act.put, List.getElem_toArray, List.getElem_cons_zero, List.getElem_cons_succ, List.setIfInBounds_toArray, List.set_cons_zero, List.set_cons_succ]
  first
  | (refine wpAnyH_take (i := 4) (v := undef) rfl (by kernel_rfl) (by kernel_rfl) (by kernel_rfl) (fun _ _ _ h => h) (Or.inr ⟨by rfl, rfl⟩) (by assumption) ?_)
  | (refine wpAnyH_take (i := 4) (v := ?_) rfl (by kernel_rfl) (by kernel_rfl) (by kernel_rfl) (fun _ _ _ h => h) (Or.inl ⟨by rfl, ?_⟩) (by assumption) ?_; rotate_left; (focus (intro wq hSw; (try dsimp only at hSw); go_simp; (try with_reducible rfl))))
  simp only [Act.put, List.getElem_toArray, List.getElem_cons_zero, List.getElem_cons_succ, List.setIfInBounds_toArray, List.set_cons_zero, List.set_cons_succ]
  refine wpAnyH_take (i := 5) (v := ?_) rfl (by kernel_rfl) (by kernel_rfl) (by kernel_rfl) (fun _ _ _ h => h) (Or.inl ⟨by rfl, ?_⟩) (by assumption) ?_
  rotate_left
  · (intro wq hSw; (try dsimp only at hSw); go_simp; (try with_reducible rfl))
  simp only [Act.put, List.getElem_toArray, List.getElem_cons_zero, List.getElem_cons_succ, List.setIfInBounds_toArray, List.set_cons_zero, List.set_cons_succ]
  refine wpAnyH_take (i := 6) (v := ?_) rfl (by kernel_rfl) (by kernel_rfl) (by kernel_rfl) (fun _ _ _ h => h) (Or.inl ⟨by rfl, ?_⟩) (by assumption) ?_
  rotate_left
  · (intro wq hSw; (try dsimp only at hSw); go_simp; (try with_reducible rfl))
  simp only [Act.put, List.getElem_toArray, List.getElem_cons_zero, List.getElem_cons_succ, List.setIfInBounds_toArray, List.set_cons_zero, List.set_cons_succ]
  first
  | (refine wpAnyH_take (i := 7) (v := undef) rfl (by kernel_rfl) (by kernel_rfl) (by kernel_rfl) (fun _ _ _ h => h) (Or.inr ⟨by rfl, rfl⟩) (by assumption) ?_)
  | (refine wpAnyH_take (i := 7) (v := ?_) rfl (by kernel_rfl) (by kernel_rfl) (by kernel_rfl) (fun _ _ _ h => h) (Or.inl ⟨by rfl, ?_⟩) (by assumption) ?_; rotate_left; (focus (intro wq hSw; (try dsimp only at hSw); go_simp; (try with_reducible rfl))))
  simp only [Act.put, List.getElem_toArray, List.getElem_cons_zero, List.getElem_cons_succ, List.setIfInBounds_toArray, List.set_cons_zero, List.set_cons_succ]
  refine wpAnyH_take (i := 8) (v := ?_) rfl (by kernel_rfl) (by kernel_rfl) (by kernel_rfl) (fun _ _ _ h => h) (Or.inl ⟨by rfl, ?_⟩) (by assumption) ?_
  rotate_left
  · (intro wq hSw; (try dsimp only at hSw); go_simp; (try with_reducible rfl))
  simp only [Act.put, List.getElem_toArray, List.getElem_cons_zero, List.getElem_cons_succ, List.setIfInBounds_toArray, List.set_cons_zero, List.set_cons_succ]
  refine wpAnyH_take (i := 9) (v := ?_) rfl (by kernel_rfl) (by kernel_rfl) (by kernel_rfl) (fun _ _ _ h => h) (Or.inl ⟨by rfl, ?_⟩) (by assumption) ?_
  rotate_left
  · (intro wq hSw; (try dsimp only at hSw); go_simp; (try with_reducible rfl))
  simp only [Act.put, List.getElem_toArray, List.getElem_cons_zero, List.getElem_cons_succ, List.setIfInBounds_toArray, List.set_cons_zero, List.set_cons_succ]
  first
  | (refine wpAnyH_take (i := 10) (v := undef) rfl (by kernel_rfl) (by kernel_rfl) (by kernel_rfl) (fun _ _ _ h => h) (Or.inr ⟨by rfl, rfl⟩) (by assumption) ?_)
  | (refine wpAnyH_take (i := 10) (v := ?_) rfl (by kernel_rfl) (by kernel_rfl) (by kernel_rfl) (fun _ _ _ h => h) (Or.inl ⟨by rfl, ?_⟩) (by assumption) ?_; rotate_left; (focus (intro wq hSw; (try dsimp only at hSw); go_simp; (try with_reducible rfl))))
  simp only [Act.put, List.getElem_toArray, List.getElem_cons_zero, List.getElem_cons_succ, List.setIfInBounds_toArray, List.set_cons_zero, List.set_cons_succ]
  refine wpAnyH_ready (rs := [11]) (by kernel_rfl) (by simp) ?_
  refine AllReadyH.cons (by simp only [List.getElem?_toArray, List.getElem?_cons_succ, List.getElem?_cons_zero]; rfl) (fun K hK => ?_) AllReadyH.nil
  (go_simp; go_at_call 25; refine (HOF.out _ _).mono ?_; rintro _ wd ⟨rfl, hcd⟩; have HCC := Lib.hid (HCC.out.trans' hcd); clear hcd; go_simp)
  refine hK.out _ _ ?_ (fun hHeld => ?_)
  · (first | exact HS0.out | exact HKS.out _ HCC.out)
  clear hK K
  (try simp only [Act.put, List.getElem_toArray, List.getElem_cons_zero, List.getElem_cons_succ, List.setIfInBounds_toArray, List.set_cons_zero, List.set_cons_succ])
  first
  | (refine wpAnyH_take (i := 12) (v := undef) rfl (by kernel_rfl) (by kernel_rfl) (by kernel_rfl) (fun _ _ _ h => h) (Or.inr ⟨by rfl, rfl⟩) (by assumption) ?_)
  | (refine wpAnyH_take (i := 12) (v := ?_) rfl (by kernel_rfl) (by kernel_rfl) (by kernel_rfl) (fun _ _ _ h => h) (Or.inl ⟨by rfl, ?_⟩) (by assumption) ?_; rotate_left; (focus (intro wq hSw; (try dsimp only at hSw); go_simp; (try with_reducible rfl))))
  simp only [Act.put, List.getElem_toArray, List.getElem_cons_zero, List.getElem_cons_succ, List.setIfInBounds_toArray, List.set_cons_zero, List.set_cons_succ]
  refine wpAnyH_take (i := 13) (v := ?_) rfl (by kernel_rfl) (by kernel_rfl) (by kernel_rfl) (fun _ _ _ h => h) (Or.inl ⟨by rfl, ?_⟩) (by assumption) ?_
  rotate_left
  · (intro wq hSw; (try dsimp only at hSw); go_simp; (try with_reducible rfl))
  simp only [Act.put, List.getElem_toArray, List.getElem_cons_zero, List.getElem_cons_succ, List.setIfInBounds_toArray, List.set_cons_zero, List.set_cons_succ]
  refine wpAnyH_take (i := 14) (v := ?_) rfl (by kernel_rfl) (by kernel_rfl) (by kernel_rfl) (fun _ _ _ h => h) (Or.inl ⟨by rfl, ?_⟩) (by assumption) ?_
  rotate_left
  · (intro wq hSw; (try dsimp only at hSw); go_simp; (try with_reducible rfl))
  simp only [Act.put, List.getElem_toArray, List.getElem_cons_zero, List.getElem_cons_succ, List.setIfInBounds_toArray, List.set_cons_zero, List.set_cons_succ]
  first
  | (refine wpAnyH_take (i := 15) (v := undef) rfl (by kernel_rfl) (by kernel_rfl) (by kernel_rfl) (fun _ _ _ h => h) (Or.inr ⟨by rfl, rfl⟩) (by assumption) ?_)
  | (refine wpAnyH_take (i := 15) (v := ?_) rfl (by kernel_rfl) (by kernel_rfl) (by kernel_rfl) (fun _ _ _ h => h) (Or.inl ⟨by rfl, ?_⟩) (by assumption) ?_; rotate_left; (focus (intro wq hSw; (try dsimp only at hSw); go_simp; (try with_reducible rfl))))
  simp only [Act.put, List.getElem_toArray, List.getElem_cons_zero, List.getElem_cons_succ, List.setIfInBounds_toArray, List.set_cons_zero, List.set_cons_succ]
  first
  | (refine wpAnyH_take (i := 16) (v := undef) rfl (by kernel_rfl) (by kernel_rfl) (by kernel_rfl) (fun _ _ _ h => h) (Or.inr ⟨by rfl, rfl⟩) (by assumption) ?_)
  | (refine wpAnyH_take (i := 16) (v := ?_) rfl (by kernel_rfl) (by kernel_rfl) (by kernel_rfl) (fun _ _ _ h => h) (Or.inl ⟨by rfl, ?_⟩) (by assumption) ?_; rotate_left; (focus (intro wq hSw; (try dsimp only at hSw); go_simp; (try with_reducible rfl))))
  simp only [Act.put, List.getElem_toArray, List.getElem_cons_zero, List.getElem_cons_succ, List.setIfInBounds_toArray, List.set_cons_zero, List.set_cons_succ]
  first
  | (refine wpAnyH_take (i := 17) (v := undef) rfl (by kernel_rfl) (by kernel_rfl) (by kernel_rfl) (fun _ _ _ h => h) (Or.inr ⟨by rfl, rfl⟩) (by assumption) ?_)
  | (refine wpAnyH_take (i := 17) (v := ?_) rfl (by kernel_rfl) (by kernel_rfl) (by kernel_rfl) (fun _ _ _ h => h) (Or.inl ⟨by rfl, ?_⟩) (by assumption) ?_; rotate_left; (focus (intro wq hSw; (try dsimp only at hSw); go_simp; (try with_reducible rfl))))
  simp only [Act.put, List.getElem_toArray, List.getElem_cons_zero, List.getElem_cons_succ, List.setIfInBounds_toArray, List.set_cons_zero, List.set_cons_succ]
  refine wpAnyH_take (i := 18) (v := ?_) rfl (by kernel_rfl) (by kernel_rfl) (by kernel_rfl) (fun _ _ _ h => h) (Or.inl ⟨by rfl, ?_⟩) (by assumption) ?_
  rotate_left
  · (intro wq hSw; (try dsimp only at hSw); go_simp; (try with_reducible rfl))
  simp only [Act.put, List.getElem_toArray, List.getElem_cons_zero, List.getElem_cons_succ, List.setIfInBounds_toArray, List.set_cons_zero, List.set_cons_succ]
  refine wpAnyH_done (by kernel_rfl) ?_ _
  change wpList _ _ _ _ _ _
  simp only [List.drop_succ_cons, List.drop_zero]
  go_wp2_with fail
  go_ret
  exact ⟨rfl, (HCZ.out.trans' HWD.out).trans' HCC.out⟩
end Go.Proofs.YtjianickjahdnaaDoor
namespace Go.Proofs.YtjianickjahdnaaDoor
open Go.RowKit
set_option linter.unusedVariables false
set_option linter.unusedSimpArgs false

def protoN (k : Nat) : Int := [1, 2, 3, 3, 4, 5, 6, 7, 8, 0, 9, 10].getD k 0
def handleL (a s n : Int) : Int := if n < 1 then 0 else handleM a s (n - 1)
theorem protoN_in (k : Nat) (hk : k < 12) : 0 ≤ protoN k ∧ protoN k ≤ 12 := by
  have : k = 0 ∨ k = 1 ∨ k = 2 ∨ k = 3 ∨ k = 4 ∨ k = 5 ∨ k = 6 ∨ k = 7 ∨ k = 8 ∨ k = 9 ∨ k = 10 ∨ k = 11 := by omega
  rcases this with rfl | rfl | rfl | rfl | rfl | rfl | rfl | rfl | rfl | rfl | rfl | rfl <;> decide
theorem newM_proto (a s : Int) (k : Nat) (hk : k < 12) : (newM a s).protos[k]? = some (handleL a s (protoN k)) := by
  have : k = 0 ∨ k = 1 ∨ k = 2 ∨ k = 3 ∨ k = 4 ∨ k = 5 ∨ k = 6 ∨ k = 7 ∨ k = 8 ∨ k = 9 ∨ k = 10 ∨ k = 11 := by omega
  rcases this with rfl | rfl | rfl | rfl | rfl | rfl | rfl | rfl | rfl | rfl | rfl | rfl <;> simp [newM, hps, handleL, protoN]
set_option maxHeartbeats 3200000 in
set_option maxRecDepth 100000 in
theorem rproto_any (k : Nat) (w : World) (hk : k < 12) : Calls Tryd.prog 15 #[.int .i64 (k : Int)] w fun e w' => e = .returned (.int .i64 (protoN k)) ∧ Chg (fun _ => False) w w' := by
  have : k = 0 ∨ k = 1 ∨ k = 2 ∨ k = 3 ∨ k = 4 ∨ k = 5 ∨ k = 6 ∨ k = 7 ∨ k = 8 ∨ k = 9 ∨ k = 10 ∨ k = 11 := by omega
  rcases this with rfl | rfl | rfl | rfl | rfl | rfl | rfl | rfl | rfl | rfl | rfl | rfl
  all_goals (
    go_enter Tryd.func15, Tryd.ntmps15
    go_wp2_with fail
    go_ret
    exact ⟨rfl, Chg.refl _ _⟩)
set_option maxHeartbeats 1600000 in
set_option maxRecDepth 100000 in
theorem lhandle_any (a s n : Int) (w : World) (hn : -1000 ≤ n ∧ n ≤ 1000000) : Calls Tryd.prog 14 #[.agg #[.int .i64 a, .int .i64 s], .int .i64 n] w fun e w' => e = .returned (.int .i64 (handleL a s n)) ∧ Chg (fun _ => False) w w' := by
  have hc := Chg.alloc (fun _ => False) w (.cells #[.int .i64 a, .int .i64 s] 24)
  have hb := alloc_block w (.cells #[.int .i64 a, .int .i64 s] 24)
  have k0 := cell_of_block (i := 0) hb rfl
  have k1 := cell_of_block (i := 1) hb rfl
  simp only [List.getElem_toArray, List.getElem_cons_zero, List.getElem_cons_succ] at k0 k1
  have HC := Lib.hid hc
  by_cases h1 : n < 1
  · have e1 : handleL a s n = 0 := if_pos h1
    rw [e1]
    clear e1 hb hc
    go_enter Tryd.func14, Tryd.ntmps14
    go_wp2_with fail
    go_ret
    exact ⟨rfl, HC.out⟩
  · have e1 : handleL a s n = handleM a s (n - 1) := if_neg h1
    rw [e1]
    have w1 : IntKind.i64.wrap (n - 1) = n - 1 := IntWalk.i64_in _ (by omega)
    have HHN := Lib.hid (fun W => handle_any a s (n - 1) W (by omega))
    clear e1 hb hc
    go_enter Tryd.func14, Tryd.ntmps14
    go_wp2_with (go_at_call 34; refine (HHN.out _).mono ?_; rintro e wa ⟨rfl, hca⟩)
    go_ret
    exact ⟨rfl, HC.out.trans' hca⟩
theorem newM_slot (a s : Int) (i : Nat) (hi : i < 12) : slotOf (newM a s) (handleM a s (i : Nat)) = some i := by
  refine slotOf_handle (hp := newM a s) (s := i) hi ?_ (by show 12 ≤ 100000; omega)
  rcases Nat.eq_zero_or_pos i with rfl | h
  · rfl
  · obtain ⟨j, rfl⟩ : ∃ j, i = j + 1 := ⟨i - 1, by omega⟩
    show ((⟨true, newObj 0 0⟩ :: List.replicate 11 (⟨true, newObj 0 (handleM a s 0)⟩ : Slt)).getD (j + 1) noSlt).used = true
    rw [List.getD_cons_succ, List.getD_eq_getElem?_getD, List.getElem?_replicate_of_lt (by omega)]
    rfl
theorem slot_zero (hp : Hp) : slotOf hp 0 = none := by
  have e : indexM hp.base hp.stride 0 = -1 := by
    unfold indexM
    have := normB_in hp.base
    rw [if_pos (.inl (by omega))]
  unfold slotOf
  rw [e]
  simp
theorem newM_chain (a s : Int) : chainM (newM a s) 100001 (handleM a s 0) = [handleM a s 0] := by
  have h : slotOf (newM a s) (handleM a s 0) = some 0 := newM_slot a s 0 (by omega)
  rw [show 100001 = 100000 + 1 from rfl, chainM_some h (by show 0 < 12; omega) 100000]
  rw [show ((newM a s).slots[0]'(by show 0 < 12; omega)).obj.proto = 0 from rfl, chainM_none (slot_zero _)]
theorem within_g (a s : Int) : withinM (newM a s) (handleM a s 11) (handleM a s 0) = true := by
  unfold withinM
  have h : slotOf (newM a s) (handleM a s 11) = some 11 := newM_slot a s 11 (by omega)
  rw [h]
  show (chainM (newM a s) 100001 (handleM a s 0)).contains (handleM a s 0) = true
  rw [newM_chain]
  simp
theorem within_z (a s : Int) : withinM (newM a s) (handleM a s 0) (handleM a s 0) = false := by
  unfold withinM
  have h : slotOf (newM a s) (handleM a s 0) = some 0 := newM_slot a s 0 (by omega)
  rw [h]
  show (chainM (newM a s) 100001 0).contains (handleM a s 0) = false
  rw [chainM_none (slot_zero _)]
  rfl
theorem newM_in (a s : Int) : ∀ i (hi : i < (newM a s).slots.length), InJ (newM a s).slots[i].obj.proto := by
  intro i hi
  have h0 := handle_in a s (i := 0) (by omega)
  have hz : handleM a s ((0 : Nat) : Int) = handleM a s 0 := rfl
  have hall : ∀ x ∈ (newM a s).slots, InJ x.obj.proto := by
    intro x hx
    rcases List.mem_cons.1 hx with rfl | hx
    · exact ⟨by show -9223372036854775808 ≤ (0 : Int); omega, by show (0 : Int) ≤ _; omega⟩
    · rw [List.eq_of_mem_replicate hx]
      exact ⟨by show _ ≤ handleM a s 0; omega, by show handleM a s 0 ≤ _; omega⟩
  exact hall _ (List.getElem_mem hi)
end Go.Proofs.YtjianickjahdnaaDoor
namespace Go.Proofs.YtjianickjahdnaaDoor
open Go.RowKit
set_option linter.unusedVariables false
set_option linter.unusedSimpArgs false

theorem nodup_bound : ∀ (k : Nat) (l : List Nat), l.Nodup → (∀ x ∈ l, x < k) → l.length ≤ k
  | 0, l, _, h => by
    cases l with
    | nil => simp
    | cons a l => exact absurd (h a (by simp)) (by omega)
  | k + 1, l, hn, h => by
    have h1 : (l.erase k).Nodup := hn.erase k
    have h2 : ∀ x ∈ l.erase k, x < k := fun x hx => by
      have := h x (List.mem_of_mem_erase hx)
      have hne : x ≠ k := fun e => by subst e; exact (List.Nodup.not_mem_erase hn) hx
      omega
    have h3 := nodup_bound k _ h1 h2
    have h4 := List.length_erase (a := k) (l := l)
    split at h4 <;> omega
/-- A chain of numbered objects. -/
def cN (pr : Nat → Option Nat) : Nat → Nat → List Nat
  | 0, _ => []
  | n + 1, j => j :: match pr j with
    | none => []
    | some t => cN pr n t
structure Acy (pr : Nat → Option Nat) : Prop where
  lt : ∀ j t, pr j = some t → t < 8
  ex : ∃ rank : Nat → Nat, ∀ j t, pr j = some t → rank t < rank j
section
variable {pr : Nat → Option Nat}
theorem cN_rank {rank : Nat → Nat} (h : ∀ j t, pr j = some t → rank t < rank j) : ∀ n j, (∀ x ∈ cN pr n j, rank x ≤ rank j) ∧ (cN pr n j).Nodup
  | 0, j => by simp [cN]
  | n + 1, j => by
    unfold cN
    cases hp : pr j with
    | none => simp
    | some t =>
      obtain ⟨h1, h2⟩ := cN_rank h n t
      have hl := h j t hp
      refine ⟨fun x hx => ?_, ?_⟩
      · rcases List.mem_cons.1 hx with rfl | hx
        · omega
        · have := h1 x hx; omega
      · exact List.nodup_cons.2 ⟨fun hx => by have := h1 j hx; omega, h2⟩
theorem cN_lt (h : ∀ j t, pr j = some t → t < 8) : ∀ n j, j < 8 → ∀ x ∈ cN pr n j, x < 8
  | 0, j, _, x, hx => by simp [cN] at hx
  | n + 1, j, hj, x, hx => by
    unfold cN at hx
    rcases List.mem_cons.1 hx with rfl | hx
    · exact hj
    · cases hp : pr j with
      | none => rw [hp] at hx; simp at hx
      | some t => rw [hp] at hx; exact cN_lt h n t (h j t hp) x hx
theorem cN_stable : ∀ n j, (cN pr n j).length < n → cN pr (n + 1) j = cN pr n j
  | 0, j, h => by omega
  | n + 1, j, h => by
    cases hp : pr j with
    | none => simp [cN, hp]
    | some t =>
      have e1 : cN pr (n + 1) j = j :: cN pr n t := by simp [cN, hp]
      have e2 : cN pr (n + 1 + 1) j = j :: cN pr (n + 1) t := by conv => lhs; unfold cN; rw [hp]
      rw [e1, List.length_cons] at h
      rw [e1, e2, cN_stable n t (by omega)]
/-- The whole chain. -/
def chN (pr : Nat → Option Nat) (j : Nat) : List Nat := cN pr 100001 j
theorem chN_len (h : Acy pr) (n j : Nat) (hj : j < 8) : (cN pr n j).length ≤ 8 := by
  obtain ⟨rank, hr⟩ := h.ex
  exact nodup_bound 8 _ (cN_rank hr n j).2 (cN_lt h.lt n j hj)
theorem chN_step (h : Acy pr) (j : Nat) (hj : j < 8) : chN pr j = j :: match pr j with
    | none => []
    | some t => chN pr t := by
  unfold chN
  conv => lhs; unfold cN
  cases hp : pr j with
  | none => rfl
  | some t =>
    have ht := h.lt j t hp
    have e := cN_stable (pr := pr) 100000 t (by have := chN_len h 100000 t ht; omega)
    simp only
    rw [show (100001 : Nat) = 100000 + 1 from rfl, e]
theorem chN_none (h : Acy pr) {j : Nat} (hj : j < 8) (hp : pr j = none) : chN pr j = [j] := by rw [chN_step h j hj, hp]
theorem chN_some (h : Acy pr) {j t : Nat} (hj : j < 8) (hp : pr j = some t) : chN pr j = j :: chN pr t := by rw [chN_step h j hj, hp]
/-- What lies behind an object. -/
def behind (pr : Nat → Option Nat) (j : Nat) : List Nat := match pr j with
  | none => []
  | some t => chN pr t
theorem chN_behind (h : Acy pr) {j : Nat} (hj : j < 8) : chN pr j = j :: behind pr j := by
  unfold behind
  exact chN_step h j hj
theorem chN_mem (h : Acy pr) {j : Nat} (hj : j < 8) (a : Nat) : a ∈ chN pr j ↔ a = j ∨ a ∈ behind pr j := by
  rw [chN_behind h hj, List.mem_cons]
theorem behind_self (h : Acy pr) {j : Nat} (hj : j < 8) : j ∉ behind pr j := by
  obtain ⟨rank, hr⟩ := h.ex
  unfold behind
  cases hp : pr j with
  | none => simp
  | some t =>
    intro hx
    have h1 := (cN_rank hr 100001 t).1 j hx
    have := hr j t hp
    omega
theorem Acy.link (h : Acy pr) {a b : Nat} (ha : a < 8) (hb : b < 8) (hn : a ∉ chN pr b) : Acy (fun j => if j = a then some b else pr j) := by
  obtain ⟨rank, hr⟩ := h.ex
  refine ⟨fun j t hj => ?_, fun j => if a ∈ chN pr j then rank j + rank b + 1 else rank j, fun j t hj => ?_⟩
  · by_cases e : j = a
    · rw [if_pos e] at hj; cases hj; exact hb
    · rw [if_neg e] at hj; exact h.lt j t hj
  · by_cases e : j = a
    · subst e
      rw [if_pos rfl] at hj
      cases hj
      have hself : j ∈ chN pr j := (chN_mem h ha j).2 (.inl rfl)
      simp only [if_pos hself, if_neg hn]
      omega
    · rw [if_neg e] at hj
      have hl := hr j t hj
      have ht := h.lt j t hj
      by_cases hm : a ∈ chN pr t
      · have hmj : a ∈ chN pr j := by
          by_cases hj8 : j < 8
          · rw [chN_some h hj8 hj]; exact List.mem_cons_of_mem _ hm
          · unfold chN at hm ⊢
            have e := cN_stable (pr := pr) 100000 t (by have := chN_len h 100000 t ht; omega)
            unfold cN
            rw [hj]
            simp only
            rw [← e]
            exact List.mem_cons_of_mem _ hm
        simp only [if_pos hm, if_pos hmj]
        omega
      · simp only [if_neg hm]
        split <;> omega
end
end Go.Proofs.YtjianickjahdnaaDoor
namespace Go.Proofs.YtjianickjahdnaaDoor
open Go.RowKit
set_option linter.unusedVariables false
set_option linter.unusedSimpArgs false

theorem putO_gt {hp : Hp} {i : Nat} (hi : i < hp.slots.length) (o : Obj) (j : Nat) : (putO hp i o).slots.getD j noSlt = if i = j then { hp.slots.getD i noSlt with obj := o } else hp.slots.getD j noSlt := by
  show (hp.slots.set i { hp.slots.getD i noSlt with obj := o }).getD j noSlt = _
  rw [List.getD_eq_getElem?_getD, List.getElem?_set]
  by_cases e : i = j
  · rw [if_pos e, if_pos e, if_pos hi]; rfl
  · rw [if_neg e, if_neg e, List.getD_eq_getElem?_getD]
theorem gD_app_lt {l : List Slt} {x : Slt} {i : Nat} (h : i < l.length) : (l ++ [x]).getD i noSlt = l.getD i noSlt := by
  rw [List.getD_eq_getElem?_getD, List.getD_eq_getElem?_getD, List.getElem?_append_left h]
theorem gD_app_eq {l : List Slt} {x : Slt} : (l ++ [x]).getD l.length noSlt = x := by
  rw [List.getD_eq_getElem?_getD, List.getElem?_append_right (Nat.le_refl _), Nat.sub_self]; rfl
theorem gD_get {α : Type} {l : List α} {d : α} {i : Nat} (h : i < l.length) : l.getD i d = l[i] := by rw [List.getD_eq_getElem?_getD, List.getElem?_eq_getElem h]; rfl
def hC (t : Nat) : Int := handleM 2 7 ((12 + t : Nat) : Int)
theorem hC_eq {t : Nat} (h : t ≤ 1000) : hC t = 2 + 7 * (12 + (t : Int)) := by
  unfold hC handleM normB
  rw [if_neg (by omega), show min (max (2 : Int) 1) 1000 = 2 from by decide, show min (max (7 : Int) 1) 1000 = 7 from by decide]
  omega
theorem hC_in {t : Nat} (h : t ≤ 1000) : InJ (hC t) := by
  rw [hC_eq h]
  exact ⟨by omega, by omega⟩
theorem hC_inj {a b : Nat} (ha : a ≤ 1000) (hb : b ≤ 1000) (h : hC a = hC b) : a = b := by
  rw [hC_eq ha, hC_eq hb] at h
  omega
def prV : Option Nat → Int
  | none => 0
  | some t => hC t
def objC (p : Option Nat) (ps : List Prp) : Obj := { newObj 0 (prV p) with props := ps }
/-- The law's heap: its own objects, k more; their prototypes and properties. -/
structure CH (k : Nat) (pr : Nat → Option Nat) (P : Nat → List Prp) (hp : Hp) : Prop where
  base : hp.base = 2
  stride : hp.stride = 7
  len : hp.slots.length = 12 + k
  free : hp.free = []
  live : hp.live = ((12 + k : Nat) : Int)
  prot : hp.protos = (newM 2 7).protos
  used : ∀ i, i < 12 + k → (hp.slots.getD i noSlt).used = true
  obj : ∀ j, j < k → (hp.slots.getD (12 + j) noSlt).obj = objC (pr j) (P j)
  pin : ∀ i, i < 12 + k → InJ (hp.slots.getD i noSlt).obj.proto
  pln : ∀ i, i < 12 + k → (hp.slots.getD i noSlt).obj.kind ≠ 1 ∧ (hp.slots.getD i noSlt).obj.props.length ≤ 10
section
variable {k : Nat} {pr : Nat → Option Nat} {P : Nat → List Prp} {hp : Hp}
theorem CH.pinA (h : CH k pr P hp) : ∀ s (hs : s < hp.slots.length), InJ hp.slots[s].obj.proto := fun s hs => by
  have := h.pin s (by rw [h.len] at hs; exact hs)
  rwa [gD_get hs] at this
theorem CH.plain (h : CH k pr P hp) : Plain hp := fun s hs => by
  have := h.pln s (by rw [h.len] at hs; exact hs)
  rw [gD_get hs] at this
  exact ⟨this.1, by omega⟩
theorem CH.slot (h : CH k pr P hp) (hk : k ≤ 8) {j : Nat} (hj : j < k) : slotOf hp (hC j) = some (12 + j) := by
  have q := slotOf_handle (hp := hp) (s := 12 + j) (by rw [h.len]; omega) (h.used (12 + j) (by omega)) (by rw [h.len]; omega)
  rwa [h.base, h.stride] at q
theorem CH.at (h : CH k pr P hp) {j : Nat} (hj : j < k) : ∃ hl : 12 + j < hp.slots.length, hp.slots[12 + j].obj = objC (pr j) (P j) := by
  have hl : 12 + j < hp.slots.length := by rw [h.len]; omega
  exact ⟨hl, by rw [← h.obj j hj, gD_get hl]⟩
theorem CH.begin : CH 0 (fun _ => none) (fun _ => []) (newM 2 7) := by
  have key : ∀ x ∈ (newM 2 7).slots, x.used = true ∧ InJ x.obj.proto ∧ x.obj.kind ≠ 1 ∧ x.obj.props.length ≤ 10 := by
    intro x hx
    have h0 := handle_in 2 7 (i := 0) (by omega)
    have hz : handleM 2 7 ((0 : Nat) : Int) = handleM 2 7 0 := rfl
    rcases List.mem_cons.1 hx with rfl | hx
    · exact ⟨rfl, ⟨by show -9223372036854775808 ≤ (0 : Int); omega, by show (0 : Int) ≤ _; omega⟩, by show (0 : Int) ≠ 1; omega, by show 0 ≤ 10; omega⟩
    · rw [List.eq_of_mem_replicate hx]
      exact ⟨rfl, ⟨by show _ ≤ handleM 2 7 0; omega, by show handleM 2 7 0 ≤ _; omega⟩, by show (0 : Int) ≠ 1; omega, by show 0 ≤ 10; omega⟩
  have key2 : ∀ i, i < 12 → (newM 2 7).slots.getD i noSlt ∈ (newM 2 7).slots := fun i hi => by
    rw [gD_get (show i < (newM 2 7).slots.length from hi)]
    exact List.getElem_mem _
  exact ⟨rfl, rfl, rfl, rfl, rfl, rfl, fun i hi => (key _ (key2 i hi)).1, fun j hj => by omega, fun i hi => (key _ (key2 i hi)).2.1, fun i hi => (key _ (key2 i hi)).2.2⟩
/-- A new object is made. -/
theorem CH.mid (h : CH k pr P hp) (hk : k < 8) : let hpm := addedM hp ⟨true, newObj ((0 : Nat) : Int) (hp.protos.getD 0 0)⟩
    slotOf hpm (hC k) = some (12 + k) ∧ (∀ s (hs : s < hpm.slots.length), InJ hpm.slots[s].obj.proto) ∧ (∃ hl : 12 + k < hpm.slots.length, hpm.slots[12 + k].obj = newObj 0 (handleM 2 7 0)) ∧
    (pr k = none → P k = [] → CH (k + 1) pr P (putO hpm (12 + k) (newObj 0 0))) := by
  intro hpm
  have hpt : hp.protos.getD 0 0 = handleM 2 7 0 := by rw [h.prot]; rfl
  have hl : hpm.slots.length = 12 + k + 1 := by
    show (hp.slots ++ [_]).length = _
    rw [List.length_append, h.len]; rfl
  have gl : ∀ i, i < 12 + k → hpm.slots.getD i noSlt = hp.slots.getD i noSlt := fun i hi => gD_app_lt (by rw [h.len]; exact hi)
  have ge : hpm.slots.getD (12 + k) noSlt = ⟨true, newObj 0 (handleM 2 7 0)⟩ := by
    have e : hpm.slots.getD hp.slots.length noSlt = (⟨true, newObj ((0 : Nat) : Int) (hp.protos.getD 0 0)⟩ : Slt) := gD_app_eq
    rw [h.len] at e
    exact e.trans (by rw [hpt]; rfl)
  have hk0 := handle_in 2 7 (i := 0) (by omega)
  have hz : handleM 2 7 ((0 : Nat) : Int) = handleM 2 7 0 := rfl
  refine ⟨?_, fun s hs => ?_, ⟨by omega, ?_⟩, fun h1 h2 => ?_⟩
  · have q := slotOf_handle (hp := hpm) (s := 12 + k) (by omega) (by rw [ge]) (by omega)
    rw [show hpm.base = 2 from h.base, show hpm.stride = 7 from h.stride] at q
    exact q
  · rw [← gD_get (d := noSlt) hs]
    by_cases e : s < 12 + k
    · rw [gl s e]; exact h.pin s e
    · rw [show s = 12 + k by omega, ge]
      exact ⟨by show _ ≤ handleM 2 7 0; omega, by show handleM 2 7 0 ≤ _; omega⟩
  · rw [← gD_get (d := noSlt) (show 12 + k < hpm.slots.length by omega), ge]
  · have hpl : 12 + k < hpm.slots.length := by omega
    have pg : ∀ i, (putO hpm (12 + k) (newObj 0 0)).slots.getD i noSlt = if 12 + k = i then { hpm.slots.getD (12 + k) noSlt with obj := newObj 0 0 } else hpm.slots.getD i noSlt := putO_gt hpl _
    refine ⟨h.base, h.stride, by show (hpm.slots.set _ _).length = _; rw [List.length_set, hl]; omega, h.free, by show hp.live + 1 = _; rw [h.live]; omega, h.prot, fun i hi => ?_, fun j hj => ?_, fun i hi => ?_, fun i hi => ?_⟩
    · rw [pg]
      split
      · rw [ge]
      · rw [gl i (by omega)]; exact h.used i (by omega)
    · rw [pg]
      split
      · rename_i e
        have : j = k := by omega
        subst this
        rw [h1, h2]
        rfl
      · rw [gl _ (by omega)]; exact h.obj j (by omega)
    · rw [pg]
      split
      · exact ⟨by show -9223372036854775808 ≤ (0 : Int); omega, by show (0 : Int) ≤ _; omega⟩
      · rw [gl i (by omega)]; exact h.pin i (by omega)
    · rw [pg]
      split
      · exact ⟨by show (0 : Int) ≠ 1; omega, by show 0 ≤ 10; omega⟩
      · rw [gl i (by omega)]; exact h.pln i (by omega)
/-- One of the objects is changed. -/
theorem CH.put (h : CH k pr P hp) {a : Nat} (ha : a < k) {pr' : Nat → Option Nat} {P' : Nat → List Prp} {x : Obj} (hx : x = objC (pr' a) (P' a)) (h1 : ∀ j, j ≠ a → pr' j = pr j ∧ P' j = P j) (h2 : InJ (prV (pr' a))) (h3 : (P' a).length ≤ 10) : CH k pr' P' (putO hp (12 + a) x) := by
  have hl : 12 + a < hp.slots.length := by rw [h.len]; omega
  have pg : ∀ i, (putO hp (12 + a) x).slots.getD i noSlt = if 12 + a = i then { hp.slots.getD (12 + a) noSlt with obj := x } else hp.slots.getD i noSlt := putO_gt hl _
  refine ⟨h.base, h.stride, by show (hp.slots.set _ _).length = _; rw [List.length_set, h.len], h.free, h.live, h.prot, fun i hi => ?_, fun j hj => ?_, fun i hi => ?_, fun i hi => ?_⟩
  · rw [pg]
    split
    · exact h.used _ (by omega)
    · exact h.used i hi
  · rw [pg]
    split
    · rename_i e
      have : j = a := by omega
      subst this
      exact hx
    · rw [(h1 j (by omega)).1, (h1 j (by omega)).2]; exact h.obj j hj
  · rw [pg]
    split
    · rw [hx]; exact h2
    · exact h.pin i hi
  · rw [pg]
    split
    · rw [hx]; exact ⟨by show (0 : Int) ≠ 1; omega, h3⟩
    · exact h.pln i hi
theorem CH.chain (h : CH 8 pr P hp) (ha : ∀ j t, pr j = some t → t < 8) : ∀ n j, j < 8 → chainM hp n (hC j) = (cN pr n j).map hC
  | 0, j, _ => rfl
  | n + 1, j, hj => by
    obtain ⟨hl, ho⟩ := h.at hj
    rw [chainM_some (h.slot (by omega) hj) hl, ho]
    unfold cN
    rw [List.map_cons]
    congr 1
    show chainM hp n (prV (pr j)) = _
    cases hp1 : pr j with
    | none => rw [show prV none = 0 from rfl, chainM_none (slot_zero _)]; rfl
    | some t => exact CH.chain h ha n t (ha j t hp1)
theorem mem_map_hC {l : List Nat} (hl : ∀ x ∈ l, x < 8) {a : Nat} (ha : a < 8) : (l.map hC).contains (hC a) = decide (a ∈ l) := by
  by_cases hm : a ∈ l
  · rw [decide_eq_true hm]
    simp only [List.contains_iff_mem]
    exact List.mem_map_of_mem hm
  · rw [decide_eq_false hm]
    simp only [Bool.eq_false_iff, ne_eq, List.contains_iff_mem]
    intro hx
    obtain ⟨y, hy, e⟩ := List.mem_map.1 hx
    have := hC_inj (by have := hl y hy; omega) (by omega) e
    subst this
    exact hm hy
theorem CH.has (h : CH 8 pr P hp) (hA : Acy pr) {a b : Nat} (ha : a < 8) (hb : b < 8) : (chainM hp 100001 (hC b)).contains (hC a) = decide (a ∈ chN pr b) := by
  rw [h.chain hA.lt 100001 b hb]
  exact mem_map_hC (cN_lt hA.lt _ b hb) ha
theorem CH.within (h : CH 8 pr P hp) (hA : Acy pr) {a b : Nat} (ha : a < 8) (hb : b < 8) : withinM hp (hC b) (hC a) = decide (a ∈ behind pr b) := by
  unfold withinM
  rw [h.slot (by omega) hb]
  simp only
  rw [h.obj b hb]
  show (chainM hp 100001 (prV (pr b))).contains (hC a) = _
  unfold behind
  cases hp1 : pr b with
  | none => rw [show prV none = 0 from rfl, chainM_none (slot_zero _)]; simp
  | some t => exact h.has hA ha (hA.lt b t hp1)
/-- The heap in which one object alone has the property. -/
def pvC : Val := ⟨3, 3, ⟨#[]⟩, 0⟩
def keyP : ByteArray := ⟨#[112]⟩
def prC (r : Nat) (j : Nat) : List Prp := if j = r then [⟨keyP, 3, 3, ⟨#[]⟩, 0⟩] else []
theorem CH.own {r : Nat} (h : CH 8 pr (prC r) hp) {j : Nat} (hj : j < 8) : ownR hp keyP (hC j) = if j = r then (pvC, true) else (zeroV, false) := by
  unfold ownR
  rw [h.slot (by omega) hj]
  simp only
  rw [h.obj j hj]
  show (match findP keyP (prC r j) 0 with
    | none => (zeroV, false)
    | some q => match (prC r j)[q]? with
      | none => (zeroV, false)
      | some p => (prpVal p, true)) = _
  unfold prC
  by_cases e : j = r
  · rw [if_pos e, if_pos e]
    have e1 : findP keyP [(⟨keyP, 3, 3, ⟨#[]⟩, 0⟩ : Prp)] 0 = some 0 := by
      show (if (keyP.toList == keyP.toList) = true then some 0 else findP keyP [] 1) = some 0
      rw [if_pos (by simp)]
    rw [e1]
    rfl
  · rw [if_neg e, if_neg e]
    rfl
theorem CH.look {r : Nat} (h : CH 8 pr (prC r) hp) (hA : Acy pr) (hr : r < 8) {i : Nat} (hi : i < 8) : lookupR hp keyP (chainM hp 100001 (hC i)) = if r ∈ chN pr i then (pvC, true) else (zeroV, false) := by
  rw [h.chain hA.lt 100001 i hi]
  have key : ∀ l : List Nat, (∀ x ∈ l, x < 8) → lookupR hp keyP (l.map hC) = if r ∈ l then (pvC, true) else (zeroV, false) := by
    intro l
    induction l with
    | nil => intro _; rfl
    | cons x l ih =>
      intro hl
      have hx := hl x (by simp)
      have ih := ih (fun y hy => hl y (by simp [hy]))
      have ho := h.own hx
      by_cases e : x = r
      · rw [if_pos (show r ∈ x :: l by rw [e]; exact List.mem_cons_self ..)]
        rw [if_pos e] at ho
        unfold lookupR
        rw [List.map_cons, List.find?_cons_of_pos (by rw [ho])]
        simp only
        rw [ho]
      · rw [if_neg e] at ho
        have e2 : lookupR hp keyP (hC x :: l.map hC) = lookupR hp keyP (l.map hC) := by
          unfold lookupR
          rw [List.find?_cons_of_neg (by rw [ho]; simp)]
        rw [List.map_cons, e2, ih]
        have : (r ∈ x :: l) ↔ r ∈ l := by simp [Ne.symm e]
        simp only [this]
  exact key _ (cN_lt hA.lt _ i hi)
end
end Go.Proofs.YtjianickjahdnaaDoor
namespace Go.Proofs.YtjianickjahdnaaDoor
open Go.RowKit
set_option linter.unusedVariables false
set_option linter.unusedSimpArgs false

def kl (l : List Prp) : List (List UInt8) := l.map (fun p => p.key.toList)
theorem findP_none_of {key : ByteArray} : ∀ {l : List Prp} {n : Nat}, key.toList ∉ kl l → findP key l n = none
  | [], n, _ => rfl
  | s :: l, n, h => by
    unfold kl at h
    rw [List.map_cons, List.mem_cons, not_or] at h
    rw [findP, if_neg (by simpa using fun e => h.1 e.symm)]
    exact findP_none_of h.2
theorem findP_none_mem {key : ByteArray} : ∀ {l : List Prp} {n : Nat}, findP key l n = none → key.toList ∉ kl l
  | [], n, _ => by simp [kl]
  | s :: l, n, h => by
    rw [findP] at h
    split at h
    · cases h
    · rename_i hq
      have ih := findP_none_mem h
      unfold kl at ih ⊢
      rw [List.map_cons, List.mem_cons, not_or]
      exact ⟨fun e => hq (by simpa using e.symm), ih⟩
theorem findP_at : ∀ {l : List Prp} {n k : Nat} {key : ByteArray}, (kl l).Nodup → (h : k < l.length) → l[k].key.toList = key.toList → findP key l n = some (n + k)
  | [], _, _, _, _, h, _ => by simp at h
  | s :: l, n, 0, key, _, _, e => by
    rw [findP, if_pos (by simpa using e)]; rfl
  | s :: l, n, k + 1, key, hn, h, e => by
    unfold kl at hn
    rw [List.map_cons, List.nodup_cons] at hn
    simp only [List.length_cons] at h
    rw [List.getElem_cons_succ] at e
    have hm : l[k].key.toList ∈ l.map (fun p => p.key.toList) := List.mem_map_of_mem (f := fun p : Prp => p.key.toList) (List.getElem_mem (show k < l.length by omega))
    rw [findP, if_neg (by
      intro x
      have x : s.key.toList = key.toList := by simpa using x
      rw [x, ← e] at hn
      exact hn.1 hm), findP_at hn.2 (show k < l.length by omega) e]
    congr 1; omega
/-- A heap whose object 12 is no array and has these properties. -/
structure OHp (hp : Hp) (ps : List Prp) : Prop where
  slot : slotOf hp 13 = some 12
  obj : ∃ hl : 12 < hp.slots.length, hp.slots[12].obj.kind ≠ 1 ∧ hp.slots[12].obj.props = ps
theorem slotOf_put (hp : Hp) (i : Nat) (o : Obj) (h : Int) : slotOf (putO hp i o) h = slotOf hp h := by
  unfold slotOf
  have e1 : (putO hp i o).slots.length = hp.slots.length := List.length_set ..
  have e2 : ∀ j, ((putO hp i o).slots.getD j noSlt).used = (hp.slots.getD j noSlt).used := fun j => by
    by_cases hi : i < hp.slots.length
    · rw [putO_gt hi]
      split
      · rename_i e; subst e; rfl
      · rfl
    · show ((hp.slots.set i _).getD j noSlt).used = _
      rw [List.set_eq_of_length_le (by omega)]
  rw [e1, e2]
  rfl
theorem OHp.put {hp : Hp} {ps : List Prp} (h : OHp hp ps) (hl : 12 < hp.slots.length) {x : Obj} (hx : x.kind = hp.slots[12].obj.kind) : OHp (putO hp 12 x) x.props := by
  obtain ⟨h1, hl, h2, h3⟩ := h
  have hl' : 12 < (putO hp 12 x).slots.length := by show 12 < (hp.slots.set _ _).length; rw [List.length_set]; exact hl
  have e : (putO hp 12 x).slots[12].obj = x := by
    have g := putO_gt hl x 12
    rw [if_pos rfl, gD_get hl'] at g
    rw [g]
  refine ⟨by rw [slotOf_put]; exact h1, hl', ?_, ?_⟩
  · rw [e, hx]; exact h2
  · rw [e]
theorem OHp.begin : OHp (addedM (newM 0 0) ⟨true, newObj 0 ((newM 0 0).protos.getD 0 0)⟩) [] := by
  refine ⟨by kernel_rfl, ⟨of_decide_eq_true (by kernel_rfl), ?_, by kernel_rfl⟩⟩
  show (0 : Int) ≠ 1
  decide
/-- The properties after a Put, and where the key is then. -/
theorem put_law (ps : List Prp) (hn : (kl ps).Nodup) (key : ByteArray) (v : Val) : ∃ ps2 j, ∃ hj : j < ps2.length, findP key ps2 0 = some j ∧ (ps2[j].vkind = v.kind ∧ ps2[j].vint = v.int ∧ ps2[j].vstr = v.str ∧ ps2[j].vref = v.ref) ∧ (kl ps2).Nodup ∧
    ((findP key ps 0 = none ∧ ps2 = ps ++ [⟨key, v.kind, v.int, v.str, v.ref⟩]) ∨ ∃ hj1 : j < ps.length, findP key ps 0 = some j ∧ ps2 = ps.set j ⟨ps[j].key, v.kind, v.int, v.str, v.ref⟩) := by
  cases hf : findP key ps 0 with
  | none =>
    have hm := findP_none_mem hf
    have hn2 : (kl (ps ++ [⟨key, v.kind, v.int, v.str, v.ref⟩])).Nodup := by
      unfold kl at hn hm ⊢
      rw [List.map_append, List.nodup_append]
      refine ⟨hn, by simp, fun a ha b hb => ?_⟩
      simp only [List.map_cons, List.map_nil, List.mem_cons, List.not_mem_nil, or_false] at hb
      subst hb
      intro e
      subst e
      exact hm ha
    have hl : ps.length < (ps ++ [(⟨key, v.kind, v.int, v.str, v.ref⟩ : Prp)]).length := by simp
    have hg : (ps ++ [(⟨key, v.kind, v.int, v.str, v.ref⟩ : Prp)])[ps.length] = ⟨key, v.kind, v.int, v.str, v.ref⟩ := by simp
    refine ⟨_, ps.length, hl, ?_, ?_, hn2, .inl ⟨rfl, rfl⟩⟩
    · rw [findP_at hn2 hl (by rw [hg])]; rw [Nat.zero_add]
    · rw [hg]; exact ⟨rfl, rfl, rfl, rfl⟩
  | some j =>
    have hj := findP_lt hf
    have hk : kl (ps.set j ⟨ps[j].key, v.kind, v.int, v.str, v.ref⟩) = kl ps := by
      unfold kl
      rw [List.map_set]
      apply List.ext_getElem (by simp)
      intro q h1 h2
      rw [List.getElem_set]
      split
      · rename_i e; subst e; simp
      · rfl
    have hl : j < (ps.set j ⟨ps[j].key, v.kind, v.int, v.str, v.ref⟩).length := by rw [List.length_set]; exact hj
    have hg : (ps.set j ⟨ps[j].key, v.kind, v.int, v.str, v.ref⟩)[j] = ⟨ps[j].key, v.kind, v.int, v.str, v.ref⟩ := List.getElem_set_self ..
    obtain ⟨-, h2, h3⟩ := findP_some key ps 0 j hf
    refine ⟨_, j, hl, ?_, ?_, by rw [hk]; exact hn, .inr ⟨hj, rfl, rfl⟩⟩
    · rw [findP_at (by rw [hk]; exact hn) hl (by rw [hg]; simpa using h3)]; rw [Nat.zero_add]
    · rw [hg]; exact ⟨rfl, rfl, rfl, rfl⟩
theorem set_keys (ps : List Prp) {j : Nat} (hj : j < ps.length) {v : Val} : (ps.set j ⟨ps[j].key, v.kind, v.int, v.str, v.ref⟩).map (·.key) = ps.map (·.key) := by
  rw [List.map_set]
  apply List.ext_getElem (by simp)
  intro q h1 h2
  rw [List.getElem_set]
  split
  · rename_i e; subst e; simp
  · rfl
/-- What a Delete leaves. -/
theorem del_law {ps : List Prp} (hn : (kl ps).Nodup) {k : Nat} (hk : k < ps.length) : findP ps[k].key ps 0 = some k ∧ findP ps[k].key (ps.take k ++ ps.drop (k + 1)) 0 = none ∧ (ps.take k ++ ps.drop (k + 1)).map (·.key) = (ps.map (·.key)).take k ++ (ps.map (·.key)).drop (k + 1) ∧ (kl (ps.take k ++ ps.drop (k + 1))).Nodup := by
  have e : ps = ps.take k ++ ps[k] :: ps.drop (k + 1) := by rw [List.getElem_cons_drop, List.take_append_drop]
  have hn' := hn
  rw [e] at hn'
  unfold kl at hn'
  rw [List.map_append, List.map_cons, List.nodup_append, List.nodup_cons] at hn'
  obtain ⟨h1, ⟨h2, h3⟩, h4⟩ := hn'
  refine ⟨by rw [findP_at hn hk rfl, Nat.zero_add], findP_none_of ?_, by simp [List.map_take, List.map_drop], ?_⟩
  · unfold kl
    rw [List.map_append, List.mem_append, not_or]
    exact ⟨fun x => h4 _ x _ (List.mem_cons_self ..) rfl, h2⟩
  · unfold kl
    rw [List.map_append, List.nodup_append]
    exact ⟨h1, h3, fun a ha b hb => h4 a ha b (List.mem_cons_of_mem _ hb)⟩
/-- Own, in one form. -/
theorem ownOne_at {hp : Hp} {ps : List Prp} (h : OHp hp ps) (W : World) (b : Nat) (F : List Nat) (key : ByteArray) (H : Here hpR W b 0 hp F) {j : Nat} (hf : findP key ps 0 = some j) (hj : j < ps.length) (hl : ps.length ≤ 1000) :
    Calls Tryd.prog 23 #[.pointer (some ⟨b, 0, none⟩), .int .i64 13, .string key] W fun e w' => e = .returned (.tuple #[.agg #[.int .i64 ps[j].vkind, .int .i64 ps[j].vint, .string ps[j].vstr, .int .i64 ps[j].vref], .bool true]) ∧ Chg (fun _ => False) W w' := by
  obtain ⟨h1, hl2, h2, h3⟩ := h
  subst h3
  exact own_has W b hp F 13 12 key j H (by omega) h1 hl2 h2 hf hj (by omega)
theorem ownOne_gone {hp : Hp} {ps : List Prp} (h : OHp hp ps) (W : World) (b : Nat) (F : List Nat) (key : ByteArray) (H : Here hpR W b 0 hp F) (hf : findP key ps 0 = none) :
    Calls Tryd.prog 23 #[.pointer (some ⟨b, 0, none⟩), .int .i64 13, .string key] W fun e w' => e = .returned (.tuple #[.agg #[.int .i64 0, .int .i64 0, .string ⟨#[]⟩, .int .i64 0], .bool false]) ∧ Chg (fun _ => False) W w' := by
  obtain ⟨h1, hl2, h2, h3⟩ := h
  subst h3
  exact own_not W b hp F 13 12 key H (by omega) h1 hl2 h2 hf
/-- Put of a number. -/
theorem putOne_at {hp : Hp} {ps : List Prp} (h : OHp hp ps) (hn : (kl ps).Nodup) (hl : ps.length ≤ 1000) (key : ByteArray) (v : Int) : ∃ hp2 ps2 j, ∃ hj : j < ps2.length, OHp hp2 ps2 ∧ findP key ps2 0 = some j ∧ (ps2[j].vkind = 3 ∧ ps2[j].vint = v ∧ ps2[j].vstr = ⟨#[]⟩ ∧ ps2[j].vref = 0) ∧ (kl ps2).Nodup ∧
    (findP key ps 0 = none → ps2.map (·.key) = ps.map (·.key) ++ [key]) ∧ ((findP key ps 0).isSome = true → ps2.map (·.key) = ps.map (·.key)) ∧
    ∀ W b F, Here hpR W b 0 hp F → Calls Tryd.prog 24 #[.pointer (some ⟨b, 0, none⟩), .int .i64 13, .string key, .agg #[.int .i64 3, .int .i64 v, .string ⟨#[]⟩, .int .i64 0]] W fun e w' => e = .returned (.int .i64 0) ∧ Post hpR W b 0 hp2 F w' := by
  obtain ⟨ps2, j, hj, p1, p2, p3, p4⟩ := put_law ps hn key ⟨3, v, ⟨#[]⟩, 0⟩
  have h0 := h
  obtain ⟨h1, hl2, h2, h3⟩ := h
  rcases p4 with ⟨q1, q2⟩ | ⟨hj1, q1, q2⟩
  · refine ⟨putO hp 12 { hp.slots[12].obj with props := ps2 }, ps2, j, hj, h0.put hl2 (x := { hp.slots[12].obj with props := ps2 }) rfl, p1, p2, p3, fun _ => by rw [q2, List.map_append]; rfl, fun x => (by rw [q1] at x; cases x), fun W b F H => ?_⟩
    subst h3
    have := put_new W b hp F 13 12 key ⟨3, v, ⟨#[]⟩, 0⟩ ⟨3, v, ⟨#[]⟩, 0⟩ H (by omega) h1 hl2 h2 (fun W _ => normal_int v W) q1 (by omega)
    rw [← q2] at this
    exact this
  · refine ⟨putO hp 12 { hp.slots[12].obj with props := ps2 }, ps2, j, hj, h0.put hl2 (x := { hp.slots[12].obj with props := ps2 }) rfl, p1, p2, p3, fun x => (by rw [q1] at x; cases x), fun _ => by rw [q2]; exact set_keys ps hj1 (v := ⟨3, v, ⟨#[]⟩, 0⟩), fun W b F H => ?_⟩
    subst h3
    have := put_old W b hp F 13 12 key ⟨3, v, ⟨#[]⟩, 0⟩ ⟨3, v, ⟨#[]⟩, 0⟩ H (by omega) h1 hl2 h2 (fun W _ => normal_int v W) j q1 hj1 (by omega)
    rw [← q2] at this
    exact this
/-- Delete. -/
theorem delOne_at {hp : Hp} {ps : List Prp} (h : OHp hp ps) (hn : (kl ps).Nodup) (hl : ps.length ≤ 1000) {k : Nat} (hk : k < ps.length) : ∃ hp2, OHp hp2 (ps.take k ++ ps.drop (k + 1)) ∧
    (∀ W b F, Here hpR W b 0 hp F → Calls Tryd.prog 26 #[.pointer (some ⟨b, 0, none⟩), .int .i64 13, .string ps[k].key] W fun e w' => e = .returned (.bool true) ∧ Post hpR W b 0 hp2 F w') ∧
    (∀ W b F, Here hpR W b 0 hp2 F → Calls Tryd.prog 26 #[.pointer (some ⟨b, 0, none⟩), .int .i64 13, .string ps[k].key] W fun e w' => e = .returned (.bool true) ∧ Chg (fun _ => False) W w') := by
  have h0 := h
  obtain ⟨h1, hl2, h2, h3⟩ := h
  obtain ⟨d1, d2, d3, d4⟩ := del_law hn hk
  have hn2 := h0.put hl2 (x := { hp.slots[12].obj with props := ps.take k ++ ps.drop (k + 1) }) rfl
  refine ⟨_, hn2, fun W b F H => ?_, fun W b F H => ?_⟩
  · subst h3
    exact del_has W b hp F 13 12 _ k H (by omega) h1 hl2 h2 d1 hk (by omega)
  · obtain ⟨g1, gl, g2, g3⟩ := hn2
    exact del_not W b _ F 13 12 _ H (by omega) g1 gl g2 (by rw [g3]; exact d2)
theorem keysOne_at {hp : Hp} {ps : List Prp} (h : OHp hp ps) (hl : ps.length ≤ 1000) (W : World) (b : Nat) (F : List Nat) (H : Here hpR W b 0 hp F) :
    Calls Tryd.prog 27 #[.pointer (some ⟨b, 0, none⟩), .int .i64 13] W fun e w' => ∃ v', e = .returned v' ∧ OutS W w' v' (ps.map (·.key)) := by
  obtain ⟨h1, hl2, h2, h3⟩ := h
  subst h3
  exact keys_not W b hp F 13 12 H (by omega) h1 hl2 h2 (by omega)
end Go.Proofs.YtjianickjahdnaaDoor
namespace Go.Proofs.YtjianickjahdnaaDoor
open Go.RowKit
set_option linter.unusedVariables false
set_option linter.unusedSimpArgs false

set_option maxHeartbeats 1600000 in
set_option maxRecDepth 100000 in
theorem make_full (w : World) (b : Nat) (hp : Hp) (F : List Nat) (k : Nat) (H : Here hpR w b 0 hp F) (hlive : hp.live = 100000) (hk : k < 12) :
    Calls Tryd.prog 11 #[.pointer (some ⟨b, 0, none⟩), .int .i64 (k : Int)] w
      fun e w' => e = .returned (.tuple #[.int .i64 0, .int .i64 5]) ∧ w' = w := by
  have HL := Lib.hid (len_any w b 0 hp F H)
  rw [hlive] at HL
  have h0 : (0 : Int) ≤ (k : Int) := by omega
  have h1 : (k : Int) < 12 := by omega
  have h2 : ¬ ((12 : Int) ≤ (k : Int)) := by omega
  clear H hlive hk
  go_enter Tryd.func11, Tryd.ntmps11
  go_wp2_with (go_at_call 16; refine HL.out.mono ?_; rintro e w2 ⟨rfl, rfl⟩)
  go_ret2
  exact ⟨rfl, rfl⟩
set_option maxHeartbeats 1600000 in
set_option maxRecDepth 100000 in
theorem text_any (s : ByteArray) (w : World) (hs : s.size ≤ 35184372088832) (hT : Lib.Utf8Tabs 0 1 w) :
    Calls Tryd.prog 13 #[.string s] w fun e w' => e = .returned (.agg #[.int .i64 4, .int .i64 0, .string (repairM s), .int .i64 0]) ∧ Chg (fun _ => False) w w' := by
  have hca := Chg.alloc (fun _ => False) w (.cells #[.int .i64 0, .int .i64 0, .string ⟨#[]⟩, .int .i64 0] 36)
  have HKB := Lib.hid (alloc_block w (.cells #[.int .i64 0, .int .i64 0, .string ⟨#[]⟩, .int .i64 0] 36))
  have HRP := Lib.hid (fun W hU => repair_any s W hs hU)
  have hT2 : Lib.Utf8Tabs 0 1 (w.alloc (.cells #[.int .i64 0, .int .i64 0, .string ⟨#[]⟩, .int .i64 0] 36)) := ⟨fun c hc => hca.cell (hT.1 c hc), fun i hi => ⟨hca.cell (hT.2 i hi).1, hca.cell (hT.2 i hi).2⟩⟩
  have HU := Lib.hid hT2
  have HCA := Lib.hid hca
  generalize repairM s = t at *
  clear hT hT2 hca
  go_enter Tryd.func13, Tryd.ntmps13
  go_upto_region 1 with fail
  generalize w.alloc (.cells #[.int .i64 0, .int .i64 0, .string ⟨#[]⟩, .int .i64 0] 36) = w1 at *
  generalize hb2e : w.heap.size = b2 at *
  have HB2 := Lib.hid hb2e
  clear hb2e
  go_wp2_with (go_at_call 33; refine (HRP.out _ HU.out).mono ?_; rintro e wf ⟨rfl, hcf⟩; have hb4 := hcf.keep HKB.out (fun x => x); obtain ⟨z0, q0, z1, q1, z2, q2, z3, q3, hbf, hcs⟩ := store4 hb4 (.int .i64 4) (.int .i64 0) (.string t) (.int .i64 0))
  generalize ((((wf.setCell ⟨b2, 0, none⟩ (.int .i64 4)).setCell ⟨b2, 1, none⟩ (.int .i64 0)).setCell ⟨b2, 2, none⟩ (.string t)).setCell ⟨b2, 3, none⟩ (.int .i64 0)) = wz at *
  refine bodyPost_ret (results_cell_row rfl _ _ b2 _ _ _ _ (by rfl) hbf Tryd.underlying36 rfl (by kernel_rfl)) rfl ?_
  exact ⟨rfl, (HCA.out.trans' hcf).trans hcs (fun _ _ x => x) (fun k hk e => by have := HB2.out; omega)⟩
set_option maxHeartbeats 1600000 in
set_option maxRecDepth 100000 in
theorem fault_full (w : World) (b : Nat) (hp : Hp) (F : List Nat) (n m : ByteArray) (H : Here hpR w b 0 hp F) (hlive : hp.live = 100000) (hn : n.size ≤ 1000) (hm : m.size ≤ 1000) (hT : Lib.Utf8Tabs 0 1 w) :
    Calls Tryd.prog 12 #[.pointer (some ⟨b, 0, none⟩), .string n, .string m] w
      fun e w' => e = .returned (.agg #[.int .i64 4, .int .i64 0, .string (repairM ((n ++ ⟨#[58, 32]⟩) ++ m)), .int .i64 0]) ∧ Chg (fun _ => False) w w' := by
  have hca := Chg.alloc (fun _ => False) w (.cells #[.int .i64 0, .int .i64 0, .string ⟨#[]⟩, .int .i64 0] 36)
  have HKB := Lib.hid (alloc_block w (.cells #[.int .i64 0, .int .i64 0, .string ⟨#[]⟩, .int .i64 0] 36))
  have hT2 : Lib.Utf8Tabs 0 1 (w.alloc (.cells #[.int .i64 0, .int .i64 0, .string ⟨#[]⟩, .int .i64 0] 36)) := ⟨fun c hc => hca.cell (hT.1 c hc), fun i hi => ⟨hca.cell (hT.2 i hi).1, hca.cell (hT.2 i hi).2⟩⟩
  have hz : ((n ++ (⟨#[58, 32]⟩ : ByteArray)) ++ m).size = n.size + 2 + m.size := by rw [ByteArray.size_append, ByteArray.size_append]; rfl
  have HTX := Lib.hid (text_any ((n ++ ⟨#[58, 32]⟩) ++ m) _ (by rw [hz]; omega) hT2)
  have HMK := Lib.hid (make_full _ b hp F 11 (H.still hca) hlive (by omega))
  rw [show ((11 : Nat) : Int) = 11 from rfl] at HMK
  have HCA := Lib.hid hca
  have k1 : ¬ 9223372036854775807 < n.size + 2 := by omega
  have k2 : ¬ 9223372036854775807 < (n ++ (⟨#[58, 32]⟩ : ByteArray)).size + m.size := by rw [ByteArray.size_append, show (⟨#[58, 32]⟩ : ByteArray).size = 2 from rfl]; omega
  generalize repairM ((n ++ ⟨#[58, 32]⟩) ++ m) = t at *
  clear hT hT2 hca H hlive hz
  go_enter Tryd.func12, Tryd.ntmps12
  go_upto_region 1 with fail
  generalize w.alloc (.cells #[.int .i64 0, .int .i64 0, .string ⟨#[]⟩, .int .i64 0] 36) = w1 at *
  generalize hb2e : w.heap.size = b2 at *
  have HB2 := Lib.hid hb2e
  clear hb2e
  go_upto_region 3 with (go_at_call 11; refine HMK.out.mono ?_; rintro e wm ⟨rfl, rfl⟩)
  go_wp2_with (go_at_call 13; refine HTX.out.mono ?_; rintro e wf ⟨rfl, hcf⟩; have hb4 := hcf.keep HKB.out (fun x => x); obtain ⟨z0, q0, z1, q1, z2, q2, z3, q3, hbf, hcs⟩ := store4 hb4 (.int .i64 4) (.int .i64 0) (.string t) (.int .i64 0))
  generalize ((((wf.setCell ⟨b2, 0, none⟩ (.int .i64 4)).setCell ⟨b2, 1, none⟩ (.int .i64 0)).setCell ⟨b2, 2, none⟩ (.string t)).setCell ⟨b2, 3, none⟩ (.int .i64 0)) = wz at *
  refine bodyPost_ret (results_cell_row rfl _ _ b2 _ _ _ _ (by rfl) hbf Tryd.underlying36 rfl (by kernel_rfl)) rfl ?_
  exact ⟨rfl, (HCA.out.trans' hcf).trans hcs (fun _ _ x => x) (fun k hk e => by have := HB2.out; omega)⟩
end Go.Proofs.YtjianickjahdnaaDoor
namespace Go.Proofs.YtjianickjahdnaaDoor
open Go.RowKit Go.ChangeShapes
set_option linter.unusedVariables false
set_option linter.unusedSimpArgs false

theorem utf8_still {w w' : World} (h : Lib.Utf8Tabs 0 1 w) (hc : Chg (fun _ => False) w w') : Lib.Utf8Tabs 0 1 w' := ⟨fun c hk => hc.cell (h.1 c hk), fun i hi => ⟨hc.cell (h.2 i hi).1, hc.cell (h.2 i hi).2⟩⟩
theorem first_eq : (Rows.laid_unicode_utf8_first : DataW Unit) = Lib.firstData := (show (Rows.laid_unicode_utf8_first : DataW Unit) = Pinned.utf8First from rfl).trans Pinned.utf8First_eq
theorem accept_eq : (Rows.laid_unicode_utf8_acceptRanges : DataW Unit) = Lib.acceptData := by kernel_rfl
set_option maxRecDepth 100000 in
theorem utf8_of_laid {W : World} (h : laidMetH Tryd.prog Rows.heapBeginsRow.laid W) : Lib.Utf8Tabs 0 1 W := by
  rw [MakeChecks.laidMetH_plain _ _ _ (by kernel_rfl)] at h
  have r3 := Lib.laidMet.reads h (n := "unicode/utf8.first") (d := Rows.laid_unicode_utf8_first) (.tail _ (.tail _ (.tail _ (.tail _ (.tail _ (.tail _ (.head _)))))))
  have r4 := Lib.laidMet.reads h (n := "unicode/utf8.acceptRanges") (d := Rows.laid_unicode_utf8_acceptRanges) (.tail _ (.tail _ (.tail _ (.head _))))
  rw [first_eq] at r3
  rw [accept_eq] at r4
  exact utf8Tabs_of_readsT (U8Types.of196 sh_lays196) ⟨by kernel_rfl, by kernel_rfl, by kernel_rfl, by kernel_rfl, by kernel_rfl, by kernel_rfl, by kernel_rfl⟩ r3 r4
end Go.Proofs.YtjianickjahdnaaDoor
