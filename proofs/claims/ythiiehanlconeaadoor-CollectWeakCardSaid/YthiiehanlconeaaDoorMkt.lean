/-
  Marks: has, add.
-/
import Derived.Test.YthiiehanlconeaaDoorMks
import Derived.Test.YthiiehanlconeaaDoorKeep
namespace Go.Proofs.YthiiehanlconeaaDoor
open Go.RowKit
set_option linter.unusedVariables false
set_option linter.unusedSimpArgs false

def hasK (hp : Hp) (K : List Nat) (h : Int) : Bool := match slotOf hp h with
  | some i => decide (i ∈ K)
  | none => false
def addK (hp : Hp) (K : List Nat) (h : Int) : List Nat := match slotOf hp h with
  | some i => addN K i
  | none => K
theorem mkOf_setlen (bh : Nat) (hp : Hp) (K : List Nat) : (mkOf bh hp K).set.length = hp.slots.length := by unfold mkOf; simp
theorem mkOf_set (bh : Nat) (hp : Hp) (K : List Nat) (i : Nat) (h : i < (mkOf bh hp K).set.length) : (mkOf bh hp K).set[i] = decide (i ∈ K) := by
  have : ∀ (L : List Bool) (hL : L = (List.range hp.slots.length).map fun i => decide (i ∈ K)) (h : i < L.length), L[i] = decide (i ∈ K) := by
    rintro L rfl h
    rw [List.getElem_map, List.getElem_range]
  exact this _ rfl h

set_option maxHeartbeats 1600000 in
set_option maxRecDepth 100000 in
theorem has_any (w0 w : World) (bm bh : Nat) (hp : Hp) (F : List Nat) (K : List Nat) (h : Int) (HH : Here hpR w0 bh 0 hp F) (HM : MkI w0 w bm bh hp K) (hi : -9223372036854775808 ≤ h ∧ h ≤ 9223372036854775807) :
    Calls Tryd.prog 31 #[.pointer (some ⟨bm, 0, none⟩), .int .i64 h] w fun e w' => e = .returned (.bool (hasK hp K h)) ∧ Chg (fun _ => False) w w' := by
  have hs := slot_any w0 w bm bh hp F K h HH HM hi
  obtain ⟨Fm, ho⟩ := HM.own
  unfold hasK
  cases hsl : slotOf hp h with
  | none =>
    rw [hsl] at hs
    have HS := Lib.hid hs
    clear hs hsl ho HM HH hi
    go_enter Tryd.func31, Tryd.ntmps31
    go_wp2_with fail
    refine HS.out.mono ?_
    rintro e w2 ⟨rfl, hc⟩
    have HC := Lib.hid hc
    clear hc HS
    rw [show slotI none = -1 from rfl]
    go_wp2_with fail
    go_ret
    exact ⟨rfl, HC.out⟩
  | some i =>
    rw [hsl] at hs
    obtain ⟨hlt, -, -⟩ := slotOf_lt hsl
    obtain ⟨g, off, cap, m1, hset⟩ := mkSet ho.here (by rw [mkOf_setlen]; omega)
    obtain ⟨q1, -, -⟩ := hset i (by rw [mkOf_setlen]; exact hlt)
    rw [mkOf_set] at q1
    rw [mkOf_setlen] at m1
    have HS := Lib.hid hs
    have h0 : (0 : Int) ≤ (i : Int) := by omega
    have h1 : (i : Int) < (hp.slots.length : Int) := by omega
    have HM1 := Lib.hid m1
    have HQ1 := Lib.hid q1
    clear hs hsl ho HM HH hi hset m1 q1 hlt
    go_enter Tryd.func31, Tryd.ntmps31
    go_wp2_with fail
    refine HS.out.mono ?_
    rintro e w2 ⟨rfl, hc⟩
    have m1 := hc.cell HM1.out
    have q1 := hc.cell HQ1.out
    have HC := Lib.hid hc
    clear hc HS
    rw [show slotI (some i) = (i : Int) from rfl]
    go_wp2_with fail
    go_ret
    exact ⟨rfl, HC.out⟩

/-- The blocks behind the marks. -/
theorem mkFoot {w : World} {bm : Nat} {m : Mk} {F : List Nat} (H : Here mkR w bm 0 m F) : ∃ v1 v2, w.cell? ⟨bm, 1, none⟩ = some v1 ∧ w.cell? ⟨bm, 2, none⟩ = some v2 ∧ F = ownL v1 ++ ownL v2 ∧ (∃ a n c, v1 = .slice a n c) ∧ ∃ a n c, v2 = .slice a n c := by
  obtain ⟨cs, ⟨v1, v2, F1, F2, rfl, h1, h2, rfl⟩, hc⟩ := H.cell
  obtain ⟨x1, e1, r1, rfl⟩ := row_flat.1 h1
  obtain rfl : v1 = x1 := by simpa using e1
  obtain ⟨x2, e2, r2, rfl⟩ := row_flat.1 h2
  obtain rfl : v2 = x2 := by simpa using e2
  have c1 := hc 1 _ rfl
  have c2 := hc 2 _ rfl
  simp only [Nat.zero_add] at c1 c2
  obtain ⟨a1, k1, rfl, -⟩ := r1.slice
  obtain ⟨a2, k2, rfl, -⟩ := r2.slice
  exact ⟨_, _, c1, c2, rfl, ⟨_, _, _, rfl⟩, ⟨_, _, _, rfl⟩⟩
/-- A beginning of the list of marks as it was at some time. -/
def Snap (w : World) (bm : Nat) (F : List Nat) (g off n : Nat) : Prop :=
  (∃ n' c', w.cell? ⟨bm, 2, none⟩ = some (.slice (some ⟨g, off, none⟩) n' c') ∧ n ≤ n') ∨ (g ∉ F ∧ g ≠ bm ∧ g < w.heap.size)
def Snaps (w w' : World) (bm : Nat) (F F' : List Nat) : Prop := ∀ g off n, Snap w bm F g off n → Snap w' bm F' g off n ∧ ∀ j x, j < n → w.cell? ⟨g, off + j, none⟩ = some (.int .i64 x) → w'.cell? ⟨g, off + j, none⟩ = some (.int .i64 x)
section
variable {w w1 w2 w3 w4 : World} {bm : Nat} {m m' : Mk} {F F' F'' : List Nat}
theorem Snaps.still (hc : Chg (fun _ => False) w w1) : Snaps w w1 bm F F := by
  rintro g off n h
  refine ⟨?_, fun j x _ hu => hc.cell hu⟩
  rcases h with ⟨n', c', h1, h2⟩ | ⟨h1, h2, h3⟩
  · exact .inl ⟨n', c', hc.cell h1, h2⟩
  · exact .inr ⟨h1, h2, Nat.lt_of_lt_of_le h3 hc.size⟩
theorem Snaps.trans (h : Snaps w w1 bm F F') (k : Snaps w1 w2 bm F' F'') : Snaps w w2 bm F F'' := by
  intro g off n hs
  obtain ⟨h1, h2⟩ := h g off n hs
  obtain ⟨k1, k2⟩ := k g off n h1
  exact ⟨k1, fun j x hj hu => k2 j x hj (h2 j x hj hu)⟩
theorem Snaps.setBool {gs os : Nat} {b : Bool} (H : Here mkR w bm 0 m F) (hq : w.cell? ⟨gs, os, none⟩ = some (.bool b)) (H' : Here mkR (w.setCell ⟨gs, os, none⟩ (.bool true)) bm 0 m' F') : Snaps w (w.setCell ⟨gs, os, none⟩ (.bool true)) bm F F' := by
  have hother : ∀ k j u, w.cell? ⟨k, j, none⟩ = some u → (∀ b, u ≠ .bool b) → (w.setCell ⟨gs, os, none⟩ (.bool true)).cell? ⟨k, j, none⟩ = some u := by
    intro k j u hu hn
    rw [World.cell?_setCell_other _ _ _ _ (by
      intro e
      rw [Addr.mk.injEq] at e
      obtain ⟨rfl, rfl, -⟩ := e
      rw [hq] at hu
      exact hn b (Option.some.inj hu).symm)]
    exact hu
  obtain ⟨v1, v2, c1, c2, hF, ⟨a1, n1, k1, rfl⟩, ⟨a2, n2, k2, rfl⟩⟩ := mkFoot H
  obtain ⟨x1, x2, d1, d2, hF', -, -⟩ := mkFoot H'
  rw [hother _ _ _ c1 (fun b e => by cases e)] at d1
  rw [hother _ _ _ c2 (fun b e => by cases e)] at d2
  cases d1
  cases d2
  rw [← hF] at hF'
  subst hF'
  intro g off n hs
  refine ⟨?_, fun j x _ hu => hother _ _ _ hu (fun b e => by cases e)⟩
  rcases hs with ⟨n', c', h1, h2⟩ | ⟨h1, h2, h3⟩
  · exact .inl ⟨n', c', hother _ _ _ h1 (fun b e => by cases e), h2⟩
  · exact .inr ⟨h1, h2, by simpa using h3⟩
theorem Snaps.push {W : World} {p : Option Addr} {L cp : Nat} {a2 : Option Addr} {c2 : Nat} (H : Here mkR w bm 0 m F) (hd : w.cell? ⟨bm, 2, none⟩ = some (.slice p L cp)) (hW : Chg (fun _ => False) w W)
    (hchg : Chg (fun k => (Value.slice p L cp).ownBlock = some k) W w4) (hold : ∀ k, (Value.slice a2 (L + 1) c2).ownBlock = some k → (Value.slice p L cp).ownBlock = some k ∨ W.heap.size ≤ k)
    (hkeep : ∀ g off c, Value.slice p L cp = .slice (some ⟨g, off, none⟩) L c → (∀ j u, j < L * 1 → W.cell? ⟨g, off + j, none⟩ = some u → w4.cell? ⟨g, off + j, none⟩ = some u) ∧ ((∃ c', Value.slice a2 (L + 1) c2 = .slice (some ⟨g, off, none⟩) (L + 1) c') ∨ Chg (fun _ => False) W w4 ∧ ∀ k, (Value.slice a2 (L + 1) c2).ownBlock = some k → W.heap.size ≤ k))
    (H' : Here mkR (w4.setCell ⟨bm, 2, none⟩ (.slice a2 (L + 1) c2)) bm 0 m' F') : Snaps w (w4.setCell ⟨bm, 2, none⟩ (.slice a2 (L + 1) c2)) bm F F' := by
  obtain ⟨v1, v2, e1, e2, hF, ⟨s1, n1, k1, rfl⟩, -⟩ := mkFoot H
  rw [hd] at e2
  cases e2
  have hlt := H.lt
  have hnb := H.nb
  have hnd := H.nd
  rw [hF] at hnb hnd
  have hpb : ∀ k, (Value.slice p L cp).ownBlock = some k → k ≠ bm := fun k hk e => hnb (List.mem_append_right _ (mem_ownL.2 (e ▸ hk)))
  have hW4 : ∀ k j u, W.cell? ⟨k, j, none⟩ = some u → (∀ q, (Value.slice p L cp).ownBlock = some q → q ≠ k) → w4.cell? ⟨k, j, none⟩ = some u := fun k j u hu hk => hchg.cellS hu (fun x => hk k x rfl)
  have c1' : w4.cell? ⟨bm, 1, none⟩ = some (.slice s1 n1 k1) := hW4 _ _ _ (hW.cell e1) hpb
  have c2' : w4.cell? ⟨bm, 2, none⟩ = some (.slice p L cp) := hW4 _ _ _ (hW.cell hd) hpb
  obtain ⟨x1, x2, d1, d2, hF', -, -⟩ := mkFoot H'
  rw [World.cell?_setCell_other _ _ _ _ (by intro e; cases e), c1'] at d1
  rw [World.cell?_setCell_same _ _ _ c2'] at d2
  cases d1
  cases d2
  have hsz : W.heap.size ≤ w4.heap.size := hchg.size
  intro g off n hs
  rcases hs with ⟨n', c', h1, h2⟩ | ⟨h1, h2, h3⟩
  · rw [hd] at h1
    cases h1
    have hgF : g ∈ F := by rw [hF]; exact List.mem_append_right _ (mem_ownL.2 rfl)
    have hgb : g ≠ bm := hpb g rfl
    obtain ⟨q1, q2⟩ := hkeep g off cp rfl
    refine ⟨?_, fun j x hj hu => ?_⟩
    · rcases q2 with ⟨c'', e⟩ | ⟨-, hnew⟩
      · rw [e]
        exact .inl ⟨L + 1, c'', World.cell?_setCell_same _ _ _ c2', by omega⟩
      · refine .inr ⟨fun hx => ?_, hgb, ?_⟩
        · rw [hF'] at hx
          rcases List.mem_append.1 hx with y | y
          · exact (List.nodup_append.1 hnd).2.2 g y g (mem_ownL.2 rfl) rfl
          · have := hnew g (mem_ownL.1 y)
            have := hlt.2 g hgF
            have := hW.size
            omega
        · have := hlt.2 g hgF
          have := hW.size
          simp only [World.size_setCell]
          omega
    · rw [World.cell?_setCell_other _ _ _ _ (by intro e; rw [Addr.mk.injEq] at e; exact hgb e.1.symm)]
      exact q1 j _ (by omega) (hW.cell hu)
  · have hpg : ∀ q, (Value.slice p L cp).ownBlock = some q → q ≠ g := fun q hq e => h1 (by rw [hF]; exact List.mem_append_right _ (mem_ownL.2 (e ▸ hq)))
    refine ⟨.inr ⟨fun hx => ?_, h2, ?_⟩, fun j x hj hu => ?_⟩
    · rw [hF'] at hx
      rcases List.mem_append.1 hx with y | y
      · exact h1 (by rw [hF]; exact List.mem_append_left _ y)
      · rcases hold g (mem_ownL.1 y) with z | z
        · exact hpg g z rfl
        · have := hW.size; omega
    · have := hW.size
      simp only [World.size_setCell]
      omega
    · rw [World.cell?_setCell_other _ _ _ _ (by intro e; rw [Addr.mk.injEq] at e; exact h2 e.1.symm)]
      exact hW4 _ _ _ (hW.cell hu) hpg
end
/-- What add has done to the marks: a step at their block. -/
def MkP (w0 w : World) (bm bh : Nat) (hp : Hp) (K' : List Nat) (F : List Nat) (w' : World) : Prop := ∃ F', Own mkR w0 w' bm 0 (mkOf bh hp K') F' ∧ KOk hp K' ∧ Step w w' bm 0 3 F F' ∧ Snaps w w' bm F F'

set_option maxHeartbeats 1600000 in
set_option maxRecDepth 100000 in
theorem madd_any (w0 w : World) (bm bh : Nat) (hp : Hp) (F : List Nat) (K : List Nat) (h : Int) (HH : Here hpR w0 bh 0 hp F) (Fm : List Nat) (HO0 : Own mkR w0 w bm 0 (mkOf bh hp K) Fm) (HG0 : KOk hp K) (hi : -9223372036854775808 ≤ h ∧ h ≤ 9223372036854775807) (hl : hp.slots.length ≤ 100000) :
    Calls Tryd.prog 22 #[.pointer (some ⟨bm, 0, none⟩), .int .i64 h] w fun e w' => e = .returned (.tuple #[]) ∧ MkP w0 w bm bh hp (addK hp K h) Fm w' := by
  have hs := slot_any w0 w bm bh hp F K h HH ⟨⟨Fm, HO0⟩, HG0⟩ hi
  unfold addK
  have HOH := Lib.hid HO0
  have HG := Lib.hid HG0
  cases hsl : slotOf hp h with
  | none =>
    rw [hsl] at hs
    have HS := Lib.hid hs
    clear hs hsl HO0 HG0 HH hi
    go_enter Tryd.func22, Tryd.ntmps22
    go_wp2_with fail
    refine HS.out.mono ?_
    rintro e w2 ⟨rfl, hc⟩
    have HC := Lib.hid hc
    clear hc HS
    rw [show slotI none = -1 from rfl]
    go_wp2_with fail
    go_end0
    exact ⟨rfl, ⟨Fm, HOH.out.still HC.out, HG.out, Step.ofChg HC.out, Snaps.still HC.out⟩⟩
  | some i =>
    rw [hsl] at hs
    obtain ⟨hlt, hus, hix⟩ := slotOf_lt hsl
    have HUS := Lib.hid (HG0.add hlt hus)
    have HS := Lib.hid hs
    have HLT := Lib.hid hlt
    have HIX := Lib.hid (handle_of_index hix).1
    have h0 : (0 : Int) ≤ (i : Int) := by omega
    have h1 : (i : Int) < (hp.slots.length : Int) := by omega
    show Calls _ _ _ _ fun e w' => e = .returned (.tuple #[]) ∧ MkP w0 w bm bh hp (addN K i) Fm w'
    generalize hk2 : addN K i = K2
    have HK2 := Lib.hid hk2
    clear hs hsl HO0 HG0 HH hi hus hlt hix hk2
    go_enter Tryd.func22, Tryd.ntmps22
    go_wp2_with fail
    refine HS.out.mono ?_
    rintro e w2 ⟨rfl, hc⟩
    have ho := HOH.out.still hc
    have HCH := Lib.hid hc
    obtain ⟨g, off, cap, m1, hset⟩ := mkSet ho.here (by rw [mkOf_setlen]; have := HLT.out; omega)
    obtain ⟨q1, q2, q3⟩ := hset i (by rw [mkOf_setlen]; exact HLT.out)
    rw [mkOf_set] at q1
    rw [mkOf_setlen] at m1
    have HP := Lib.hid (q3 true)
    have HO := Lib.hid ho
    clear hset q3 hc HOH HS ho
    rw [show slotI (some i) = (i : Int) from rfl]
    by_cases hin : i ∈ K
    · have e1 : decide (i ∈ K) = true := decide_eq_true hin
      rw [e1] at q1
      have HK3 : Hid (K2 = K) := Lib.hid (by rw [← HK2.out]; unfold addN; rw [if_pos hin])
      clear e1 hin HP q2
      go_wp2_with fail
      go_end0
      rw [HK3.out]
      exact ⟨rfl, ⟨Fm, HO.out, HG.out, Step.ofChg HCH.out, Snaps.still HCH.out⟩⟩
    · have e1 : decide (i ∈ K) = false := decide_eq_false hin
      rw [e1] at q1
      have HK3 : Hid (K2 = K ++ [i]) := Lib.hid (by rw [← HK2.out]; unfold addN; rw [if_neg hin])
      have HG2 : Hid (KOk hp (K ++ [i])) := Lib.hid (by
        have := HUS.out
        unfold addN at this
        rwa [if_neg hin] at this)
      clear e1 hin
      go_upto_region 3 with fail
      obtain ⟨Fp, hp1, hst⟩ := HP.out
      have HQ1 := Lib.hid q1
      clear m1 q1 q2 HP
      have ho' : Own mkR w0 (w2.setCell ⟨g, off + i, none⟩ (.bool true)) bm 0 { mkOf bh hp K with set := (mkOf bh hp K).set.set i true } Fp := HO.out.step hp1 hst
      have HST0 := Lib.hid ((Step.ofChg HCH.out).trans hst)
      have HSN0 : Hid (Snaps w (w2.setCell ⟨g, off + i, none⟩ (.bool true)) bm Fm Fp) := Lib.hid ((Snaps.still HCH.out).trans (Snaps.setBool HO.out.here HQ1.out hp1))
      generalize w2.setCell ⟨g, off + i, none⟩ (.bool true) = w3 at *
      clear hp1 hst HO
      obtain ⟨p, cp, xs, Fs, Fr, d2, hopen, f2, hstay, hback⟩ := ho'.here.fieldAppending mkR_list (by show 0 < 3; decide)
      simp only [Nat.zero_add] at d2 f2 hstay hback
      have hlk : (mkOf bh hp K).list.length = K.length := by unfold mkOf; simp
      have hlen : K.length ≤ 100000 := Nat.le_trans (good_len _ _ HG.out.good) hl
      change w3.cell? ⟨bm, 2, none⟩ = some (.slice p (mkOf bh hp K).list.length cp) at d2
      have hrowA := (hopen.row.alloc (.cells #[.int .i64 h] 3))
      have HST := Lib.hid hstay
      have HBK := Lib.hid hback
      have HO3 := Lib.hid ho'
      have HD2 := Lib.hid d2
      have HLN : Hid ((mkOf bh hp K).list.length ≤ 100000) := Lib.hid (by omega)
      clear hstay hback hopen ho' hlk hlen
      go_wp2_with (first
        | (at_builtin; refine list_append_elem2 rfl (.tmp 30) (.tmp 32) 27 rfl 3 1 8 Tryd.underlying27 elem_int (by decide) _ (mkOf bh hp K).list.length xs.flatten rfl hrowA [.int .i64 h] rfl w3.heap.size 3 (0, 0) rfl (alloc_block w3 _) (by simp [Value.oneCell']) (by have := HLN.out; unfold maxLen; omega) (by have := HLN.out; omega) ?_; intro a2 n2 c2 w4 hrow2 hchg2 hold2 hkeep2; have dd := (HST.out _ _ (Chg.alloc _ w3 _) hchg2).1; have ff := (HST.out _ _ (Chg.alloc _ w3 _) hchg2).2))
      go_end0
      rw [HK3.out]
      have hpost := HBK.out _ _ [.int .i64 h] h [] _ (Chg.alloc _ w3 _) ⟨rfl, rfl⟩ (by simp) (by simp) hrow2 hchg2 hold2
      obtain ⟨F4, hh4, hs4⟩ := hpost
      obtain ⟨_, _, hnn, -⟩ := hrow2.slice
      cases hnn
      have hsn := Snaps.push HO3.out.here HD2.out (Chg.alloc _ w3 _) hchg2 hold2 hkeep2 hh4
      rw [← HIX.out, mkOf_push] at hh4
      exact ⟨rfl, ⟨F4, HO3.out.step hh4 hs4, HG2.out, HST0.out.trans hs4, HSN0.out.trans hsn⟩⟩
end Go.Proofs.YthiiehanlconeaaDoor
