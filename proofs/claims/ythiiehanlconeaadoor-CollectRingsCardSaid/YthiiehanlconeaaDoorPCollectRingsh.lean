/-
  CollectRings, plainly: a heap of plain objects with properties; what is found from the roots; what stays.
  A heap and a list of numbers side by side, both made behind w0.
  arena.Get, heap.Get.
  heap.Own of an object that is no array.
  The walk of collect.Sweep.
-/
import Derived.Test.YthiiehanlconeaaDoorPCollectRingse
import Derived.Test.YthiiehanlconeaaDoorPCollectRingsf
import Derived.Test.YthiiehanlconeaaDoorPCollectRingsg
import Derived.Test.YthiiehanlconeaaDoorPCollectRingsd
import Derived.Laws.ResultCell
import Derived.Test.YthiiehanlconeaaDoorPCollectRingsa
import Derived.Test.YthiiehanlconeaaDoorPCollectRingsb
import Derived.Test.YthiiehanlconeaaDoorPCollectRingsc
namespace Go.Proofs.YthiiehanlconeaaDoor
open Go.RowKit
set_option linter.unusedVariables false
set_option linter.unusedSimpArgs false

def hR (i : Nat) : Int := handleM 0 0 ((i : Nat) : Int)
theorem hR_eq {i : Nat} (h : i ≤ 1000) : hR i = 1 + (i : Int) := by
  unfold hR handleM normB
  rw [if_neg (by omega), show min (max (0 : Int) 1) 1000 = 1 from by decide, Int.one_mul]
def protoR (i : Nat) : Int := if i = 0 then 0 else hR 0
def objP (i : Nat) (ps : List Prp) : Obj := { newObj 0 (protoR i) with props := ps }
/-- Its own objects, k more, the properties. -/
structure PH (k : Nat) (P : Nat → List Prp) (hp : Hp) : Prop where
  base : hp.base = 0
  stride : hp.stride = 0
  len : hp.slots.length = 12 + k
  free : hp.free = []
  live : hp.live = ((12 + k : Nat) : Int)
  glob : hp.global = hR 11
  text : hp.texts = hR 10
  prot : hp.protos = (newM 0 0).protos
  used : ∀ i, i < 12 + k → (hp.slots.getD i noSlt).used = true
  obj : ∀ i, i < 12 + k → (hp.slots.getD i noSlt).obj = objP i (P i)
theorem newR_slot {i : Nat} (hi : i < 12) : (newM 0 0).slots.getD i noSlt = ⟨true, objP i []⟩ := by
  rcases Nat.eq_zero_or_pos i with rfl | h
  · rfl
  · obtain ⟨j, rfl⟩ : ∃ j, i = j + 1 := ⟨i - 1, by omega⟩
    show (⟨true, newObj 0 0⟩ :: List.replicate 11 (⟨true, newObj 0 (handleM 0 0 0)⟩ : Slt)).getD (j + 1) noSlt = _
    rw [List.getD_cons_succ, List.getD_eq_getElem?_getD, List.getElem?_replicate, if_pos (by omega)]
    rfl
theorem ph_begin : PH 0 (fun _ => []) (newM 0 0) :=
  ⟨rfl, rfl, rfl, rfl, rfl, rfl, rfl, rfl, fun i hi => by rw [newR_slot hi], fun i hi => by rw [newR_slot hi]⟩
section
variable {k : Nat} {P : Nat → List Prp} {hp : Hp}
theorem PH.more (h : PH k P hp) (h0 : P (12 + k) = []) : PH (k + 1) P (addedM hp ⟨true, newObj ((0 : Nat) : Int) (hp.protos.getD 0 0)⟩) := by
  have hl := h.len
  refine ⟨h.base, h.stride, ?_, h.free, ?_, h.glob, h.text, h.prot, fun i hi => ?_, fun i hi => ?_⟩
  · show (hp.slots ++ [_]).length = _
    rw [List.length_append, hl]; rfl
  · show hp.live + 1 = _
    rw [h.live]; omega
  · show ((hp.slots ++ [_]).getD i noSlt).used = true
    by_cases e : i < hp.slots.length
    · rw [getD_app_lt e]; exact h.used i (by omega)
    · have : i = hp.slots.length := by omega
      rw [this, getD_app_eq]
  · show ((hp.slots ++ [_]).getD i noSlt).obj = _
    by_cases e : i < hp.slots.length
    · rw [getD_app_lt e]; exact h.obj i (by omega)
    · have e2 : i = hp.slots.length := by omega
      rw [e2, getD_app_eq, h.prot, hl, h0]
      unfold objP protoR
      rw [if_neg (by omega)]
      rfl
theorem PH.put (h : PH k P hp) {i : Nat} (hi : i < 12 + k) (ps : List Prp) {P' : Nat → List Prp} (h1 : P' i = ps) (h2 : ∀ j, j ≠ i → P' j = P j) : PH k P' (putO hp i (objP i ps)) := by
  have hl : i < hp.slots.length := by rw [h.len]; omega
  have e : ∀ j, (putO hp i (objP i ps)).slots.getD j noSlt = if i = j then { hp.slots.getD i noSlt with obj := objP i ps } else hp.slots.getD j noSlt := putO_get hl _
  refine ⟨h.base, h.stride, by show (hp.slots.set _ _).length = _; rw [List.length_set]; exact h.len, h.free, h.live, h.glob, h.text, h.prot, fun j hj => ?_, fun j hj => ?_⟩
  · rw [e]
    split
    · exact h.used i hi
    · exact h.used j hj
  · rw [e]
    split
    · rename_i e1; subst e1; rw [h1]
    · rename_i e1; rw [h2 j (fun x => e1 x.symm)]; exact h.obj j hj
theorem PH.slot (h : PH k P hp) (hk : k ≤ 100) {i : Nat} (hi : i < 12 + k) : slotOf hp (hR i) = some i := by
  have q := slotOf_handle (hp := hp) (s := i) (by rw [h.len]; exact hi) (h.used i hi) (by rw [h.len]; omega)
  rwa [h.base, h.stride] at q
theorem PH.at (h : PH k P hp) {i : Nat} (hi : i < 12 + k) : ∃ hl : i < hp.slots.length, hp.slots[i].obj = objP i (P i) := by
  have hl : i < hp.slots.length := by rw [h.len]; omega
  exact ⟨hl, by rw [← h.obj i hi, getD_get hl]⟩
theorem refs_objP (i : Nat) (ps : List Prp) : refsM (objP i ps) = nz ([protoR i] ++ ps.flatMap propRefs) := by
  unfold refsM refsL objP newObj framesM nz refsV
  simp [List.filter_append, List.filter_cons]
/-- Properties that refer to objects of this heap. -/
def InH (k : Nat) (P : Nat → List Prp) : Prop := ∀ i, i < 12 + k → (P i).length ≤ 1 ∧ ∀ p ∈ P i, p.vkind = 5 ∧ ∃ t, t < 12 + k ∧ p.vref = hR t
theorem h0_none (hp : Hp) : slotOf hp 0 = none := by
  unfold slotOf indexM
  have q := normB_in hp.base
  rw [if_pos (show (0 : Int) < normB hp.base ∨ _ from .inl (by omega)), if_neg (fun x => by omega)]
theorem protoR_or (i : Nat) : protoR i = 0 ∨ protoR i = hR 0 := by
  unfold protoR; split
  · exact .inl rfl
  · exact .inr rfl
theorem PH.gMem (h : PH k P hp) (hk : k ≤ 100) (hI : InH k P) {o : Nat} (ho : o < 12 + k) {y : Nat} (hy : y ∈ gP hp noW o) : y = 0 ∨ ∃ p ∈ P o, p.vref = hR y ∧ y < 12 + k := by
  unfold gP noW at hy
  rw [List.append_nil, h.obj o ho, refs_objP] at hy
  obtain ⟨r, hr, hs⟩ := List.mem_filterMap.1 hy
  have hr := (List.mem_filter.1 hr).1
  rcases List.mem_append.1 hr with x | x
  · rw [List.mem_singleton.1 x] at hs
    rcases protoR_or o with e | e
    · rw [e, h0_none] at hs; cases hs
    · rw [e, h.slot hk (by omega)] at hs
      exact .inl (Option.some.inj hs).symm
  · obtain ⟨p, hp1, hp2⟩ := List.mem_flatMap.1 x
    obtain ⟨h5, t, ht, hv⟩ := (hI o ho).2 p hp1
    have : r = hR t := by
      unfold propRefs at hp2
      have h2 : r ∈ refsV [p.val] := hp2
      unfold refsV refOf at h2
      rw [List.flatMap_cons, List.flatMap_nil, List.append_nil, if_pos (show p.val.kind = 5 from h5)] at h2
      rw [List.mem_singleton.1 h2]; exact hv
    rw [this, h.slot hk ht] at hs
    have e := Option.some.inj hs
    subst e
    exact .inr ⟨p, hp1, hv, ht⟩
theorem PH.gHas (h : PH k P hp) (hk : k ≤ 100) {o : Nat} (ho : o < 12 + k) {p : Prp} (hp1 : p ∈ P o) (h5 : p.vkind = 5) {t : Nat} (ht : t < 12 + k) (hv : p.vref = hR t) : t ∈ gP hp noW o := by
  unfold gP noW
  rw [List.append_nil, h.obj o ho, refs_objP]
  refine List.mem_filterMap.2 ⟨hR t, List.mem_filter.2 ⟨List.mem_append.2 (.inr (List.mem_flatMap.2 ⟨p, hp1, ?_⟩)), ?_⟩, h.slot hk ht⟩
  · unfold propRefs
    show hR t ∈ refsV [p.val]
    unfold refsV refOf
    rw [List.flatMap_cons, List.flatMap_nil, List.append_nil, if_pos (show p.val.kind = 5 from h5)]
    exact List.mem_singleton.2 hv.symm
  · rw [hR_eq (by omega)]
    simp; omega
theorem PH.psE (h : PH k P hp) {o : Nat} (ho : o < 12 + k) : psP hp o = [] := by
  unfold psP
  rw [h.obj o ho, if_neg (by show ¬ (0 : Int) = 5; omega)]
theorem PH.ok (h : PH k P hp) (hk : k ≤ 100) (hI : InH k P) : HpOk hp := by
  have hin : ∀ i, i ≤ 1000 → InI (hR i) := fun i hi => by rw [hR_eq hi]; exact ⟨by omega, by omega⟩
  have hz : InI 0 := ⟨by omega, by omega⟩
  have key : ∀ s (hs : s < hp.slots.length), s < 12 + k ∧ hp.slots[s].obj = objP s (P s) := fun s hs => by
    have hs' : s < 12 + k := by rw [h.len] at hs; exact hs
    exact ⟨hs', by rw [← h.obj s hs', getD_get hs]⟩
  refine ⟨by rw [h.len]; omega, fun s hs => ?_, fun s hs r hr => ?_, fun s hs v hv => ?_⟩
  · obtain ⟨h1, e⟩ := key s hs
    rw [e]
    exact ⟨by show (P s).length ≤ 1000; have := (hI s h1).1; omega, by simp [objP, newObj], by simp [objP, newObj], by simp [objP, newObj], fun f hf => by simp [objP, newObj] at hf⟩
  · obtain ⟨h1, e⟩ := key s hs
    rw [e, refs_objP] at hr
    have hr := (List.mem_filter.1 hr).1
    rcases List.mem_append.1 hr with x | x
    · rw [List.mem_singleton.1 x]
      rcases protoR_or s with e | e
      · rw [e]; exact hz
      · rw [e]; exact hin 0 (by omega)
    · obtain ⟨p, hp1, hp2⟩ := List.mem_flatMap.1 x
      obtain ⟨h5, t, ht, hv⟩ := (hI s h1).2 p hp1
      unfold propRefs at hp2
      have h2 : r ∈ refsV [p.val] := hp2
      unfold refsV refOf at h2
      rw [List.flatMap_cons, List.flatMap_nil, List.append_nil, if_pos (show p.val.kind = 5 from h5)] at h2
      rw [List.mem_singleton.1 h2]
      show InI p.vref
      rw [hv]; exact hin t (by omega)
  · obtain ⟨h1, e⟩ := key s hs
    rw [e] at hv
    simp [objP, newObj] at hv
def sysR : List Nat := [11, 10, 0, 1, 2, 3, 4, 5, 6, 7, 8, 9]
theorem PH.roots (h : PH k P hp) : dedupe (rootsL hp [] []) = sysR.map hR := by
  unfold rootsL
  rw [h.glob, h.text, h.prot]
  decide
theorem sysR_lt : ∀ x ∈ sysR, x < 12 := by decide
theorem sysR_all : ∀ x, x < 12 → x ∈ sysR := by decide
theorem PH.adds (h : PH k P hp) (hk : k ≤ 100) : addsK hp [] (sysR.map hR) = sysR := by
  rw [addsK_eq, List.filterMap_map]
  have : ∀ l : List Nat, (∀ x ∈ l, x < 12) → l.filterMap (slotOf hp ∘ hR) = l := by
    intro l
    induction l with
    | nil => intro _; rfl
    | cons a l ih =>
      intro hl
      rw [List.filterMap_cons_some (show (slotOf hp ∘ hR) a = some a from h.slot hk (by have := hl a (by simp); omega)), ih fun x hx => hl x (by simp [hx])]
  rw [this sysR sysR_lt]
  rfl
end
/-! ### The ring -/
def nextB : ByteArray := ⟨#[110, 101, 120, 116]⟩
def xB : ByteArray := ⟨#[120]⟩
def nxP (k q : Nat) : Prp := ⟨nextB, 5, 0, ⟨#[]⟩, hR (12 + (q + 1) % k)⟩
def xP (k : Nat) : Prp := ⟨xB, 5, 0, ⟨#[]⟩, hR (12 + k / 2)⟩
/-- The properties behind the first m puts. -/
def pM (k m : Nat) (i : Nat) : List Prp := if 12 ≤ i ∧ i < 12 + m then [nxP k (i - 12)] else []
/-- All of them. -/
def pF (k : Nat) (held : Bool) (i : Nat) : List Prp := if i = 11 then (if held then [xP k] else []) else pM k k i
theorem pF_in (k : Nat) (hk : 1 ≤ k) (held : Bool) : InH k (pF k held) := by
  intro i hi
  have h1 : 12 + k / 2 < 12 + k := by omega
  have h2 : ∀ q, 12 + (q + 1) % k < 12 + k := fun q => by have := Nat.mod_lt (q + 1) (show 0 < k by omega); omega
  unfold pF pM
  split
  · cases held
    · exact ⟨by simp, by simp⟩
    · refine ⟨by simp, fun p hp => ?_⟩
      have e : p = xP k := by simpa using hp
      rw [e]
      exact ⟨rfl, _, h1, rfl⟩
  · split
    · refine ⟨by simp, fun p hp => ?_⟩
      rw [List.mem_singleton.1 hp]
      exact ⟨rfl, _, h2 _, rfl⟩
    · exact ⟨by simp, by simp⟩
section
variable {k : Nat} {held : Bool} {hp : Hp}
def liveR_ (hp : Hp) : List Nat := liveM hp noW hp.slots.length hp.slots.length (addsK hp [] (sysR.map hR)) 0
theorem PH.kok {P : Nat → List Prp} (h : PH k P hp) (hk : k ≤ 100) (hI : InH k P) : KOk hp (liveR_ hp) ∧ (∀ x ∈ sysR, x ∈ liveR_ hp) ∧ Closed (gP hp noW) (psP hp) (liveR_ hp) := by
  have hg : ∀ o, o < 12 + k → ∀ y ∈ gP hp noW o, y < 12 + k := fun o ho y hy => by
    rcases h.gMem hk hI ho hy with e | ⟨p, -, -, e⟩
    · omega
    · exact e
  have hps : ∀ o, o < 12 + k → ∀ q ∈ psP hp o, q.2 < 12 + k := fun o ho q hq => by rw [h.psE ho] at hq; cases hq
  have hs : Good (12 + k) sysR := ⟨by decide, fun y hy => by have := sysR_lt y hy; omega⟩
  unfold liveR_
  rw [h.adds hk, liveM_eq, h.len]
  have hgd := Good.liveK' hg hps (12 + k) sysR 0 hs
  refine ⟨⟨by rw [h.len]; exact hgd, fun s hs => h.used s (hgd.lt s hs)⟩, fun x hx => (liveK_prefix _ _ _ _ _ _).subset hx, ?_⟩
  exact liveK_closed hg hps (12 + k) sysR 0 (by omega) (by omega) hs (fun i hi h0 => by omega) (.inl rfl)
theorem PH.found (h : PH k (pF k held) hp) (hk : k ≤ 100) (h1 : 1 ≤ k) {i : Nat} (hi : i < 12 + k) : i ∈ liveR_ hp ↔ (i < 12 ∨ held = true) := by
  have hI := pF_in k h1 held
  obtain ⟨hk1, hk2, hk3⟩ := h.kok hk hI
  by_cases h12 : i < 12
  · exact ⟨fun _ => .inl h12, fun _ => hk2 i (sysR_all i h12)⟩
  · cases held with
    | false =>
      refine ⟨fun hm => ?_, fun x => by simp at x; omega⟩
      unfold liveR_ at hm
      rw [h.adds hk, liveM_eq, h.len] at hm
      have := liveK_sub (g := gP hp noW) (ps := psP hp) (N := 12 + k) (T := fun o => o < 12) (fun o ho y hy => by
        rcases h.gMem hk hI (show o < 12 + k by omega) hy with e | ⟨p, hp1, -, -⟩
        · omega
        · unfold pF pM at hp1
          split at hp1
          · simp at hp1
          · rw [if_neg (by omega)] at hp1; cases hp1) (fun o ho q hq _ => by rw [h.psE (by omega)] at hq; cases hq) (12 + k) sysR 0 (fun y hy => sysR_lt y hy) i hm
      exact .inl this
    | true =>
      refine ⟨fun _ => .inr rfl, fun _ => ?_⟩
      have hx : 12 + k / 2 ∈ liveR_ hp := hk3.g 11 (hk2 11 (by decide)) _ (h.gHas hk (by omega) (p := xP k) (by unfold pF; simp) rfl (by omega) rfl)
      have hst : ∀ q, q < k → 12 + q ∈ liveR_ hp → 12 + (q + 1) % k ∈ liveR_ hp := fun q hq hm =>
        hk3.g _ hm _ (h.gHas hk (by omega) (p := nxP k q) (by unfold pF pM; rw [if_neg (by omega), if_pos (by omega)]; simp) rfl (by have := Nat.mod_lt (q + 1) (show 0 < k by omega); omega) rfl)
      have hall : ∀ d, 12 + (k / 2 + d) % k ∈ liveR_ hp := by
        intro d
        induction d with
        | zero => rw [Nat.add_zero, Nat.mod_eq_of_lt (by omega)]; exact hx
        | succ d ih =>
          have h2 := hst _ (Nat.mod_lt _ (by omega)) ih
          have e : ((k / 2 + d) % k + 1) % k = (k / 2 + (d + 1)) % k := by rw [Nat.mod_add_mod]; rfl
          rwa [e] at h2
      obtain ⟨q, rfl⟩ : ∃ q, i = 12 + q := ⟨i - 12, by omega⟩
      have := hall (q + k - k / 2)
      rw [show k / 2 + (q + k - k / 2) = q + k by omega, Nat.add_mod_right, Nat.mod_eq_of_lt (by omega)] at this
      exact this
/-- How many are removed. -/
theorem PH.cnt (h : PH k (pF k held) hp) (hk : k ≤ 100) (h1 : 1 ≤ k) : cntN hp (liveR_ hp) hp.slots.length = if held then 0 else k := by
  have key : ∀ j, j ≤ 12 + k → cntN hp (liveR_ hp) j = if held then 0 else j - 12 := by
    intro j
    induction j with
    | zero => intro _; cases held <;> rfl
    | succ j ih =>
      intro hj
      rw [cntN_succ, ih (by omega)]
      have hf := h.found hk h1 (show j < 12 + k by omega)
      have hu := h.used j (by omega)
      cases held with
      | true =>
        have e0 : (if (hp.slots.getD j noSlt).used = true ∧ j ∉ liveR_ hp then 1 else 0) = 0 := if_neg (fun x => x.2 (hf.2 (.inr rfl)))
        rw [e0]; rfl
      | false =>
        by_cases e : j < 12
        · have e0 : (if (hp.slots.getD j noSlt).used = true ∧ j ∉ liveR_ hp then 1 else 0) = 0 := if_neg (fun x => x.2 (hf.2 (.inl e)))
          rw [e0]
          show j - 12 + 0 = j + 1 - 12
          omega
        · have e0 : (if (hp.slots.getD j noSlt).used = true ∧ j ∉ liveR_ hp then 1 else 0) = 1 := if_pos ⟨hu, fun x => by rcases hf.1 x with y | y; omega; simp at y⟩
          rw [e0]
          show j - 12 + 1 = j + 1 - 12
          omega
  rw [h.len, key (12 + k) (Nat.le_refl _)]
  cases held
  · show 12 + k - 12 = k; omega
  · rfl
theorem weakN_id (Lv : List Nat) : ∀ (K : List Nat) (h : Hp), (∀ i ∈ K, (h.slots.getD i noSlt).obj.kind ≠ 5) → weakN Lv h K = h
  | [], h, _ => rfl
  | i :: K, h, hk => by
    have e : weakD Lv h i = h := by unfold weakD; rw [if_neg (hk i (by simp))]
    show weakN Lv (weakD Lv h i) K = h
    rw [e]
    exact weakN_id Lv K h fun j hj => hk j (by simp [hj])
/-- What stays, and how. -/
theorem PH.swept (h : PH k (pF k held) hp) (hk : k ≤ 100) (h1 : 1 ≤ k) {q : Nat} (hq : q < k) :
    if held then (∃ hl : 12 + q < (sweepM hp (liveR_ hp)).slots.length, slotOf (sweepM hp (liveR_ hp)) (hR (12 + q)) = some (12 + q) ∧ (sweepM hp (liveR_ hp)).slots[12 + q].obj = objP (12 + q) [nxP k q]) else slotOf (sweepM hp (liveR_ hp)) (hR (12 + q)) = none := by
  have hd := dropN_ok hp (liveR_ hp) hp.slots.length (Nat.le_refl _)
  have hI := pF_in k h1 held
  obtain ⟨hk1, -, -⟩ := h.kok hk hI
  have hw : sweepM hp (liveR_ hp) = dropN hp (liveR_ hp) hp.slots.length := by
    unfold sweepM
    refine weakN_id _ _ _ fun i hi => ?_
    have hi2 := hk1.good.lt i hi
    rw [h.len] at hi2
    rw [hd.same i (.inr hi), h.obj i hi2]
    show (0 : Int) ≠ 5
    omega
  rw [hw]
  have hf := h.found hk h1 (show 12 + q < 12 + k by omega)
  have hx := slotOf_handle (hp := hp) (s := 12 + q) (by rw [h.len]; omega) (h.used _ (by omega)) (by rw [h.len]; omega)
  have hsl := h.slot hk (show 12 + q < 12 + k by omega)
  cases held with
  | true =>
    rw [if_pos rfl]
    have hm := hf.2 (.inr rfl)
    have hs := hd.same (12 + q) (.inr hm)
    have hl : 12 + q < (dropN hp (liveR_ hp) hp.slots.length).slots.length := by rw [hd.len, h.len]; omega
    refine ⟨hl, ?_, ?_⟩
    · have q2 := slotOf_handle (hp := dropN hp (liveR_ hp) hp.slots.length) (s := 12 + q) hl (by rw [hs]; exact h.used _ (by omega)) (by rw [hd.len, h.len]; omega)
      rwa [hd.base, hd.stride, h.base, h.stride] at q2
    · have : (dropN hp (liveR_ hp) hp.slots.length).slots[12 + q].obj = (hp.slots.getD (12 + q) noSlt).obj := by rw [← hs, getD_get hl]
      rw [this, h.obj _ (by omega)]
      unfold pF pM
      rw [if_neg (by omega), if_pos (by omega), show 12 + q - 12 = q by omega]
  | false =>
    rw [if_neg (by simp)]
    have hm : 12 + q ∉ liveR_ hp := fun x => by rcases hf.1 x with y | y; omega; simp at y
    have hg := hd.gone (12 + q) (by rw [h.len]; omega) (by rw [h.len]; omega) hm
    cases hs : slotOf (dropN hp (liveR_ hp) hp.slots.length) (hR (12 + q)) with
    | none => rfl
    | some j =>
      obtain ⟨hj, hu, hix⟩ := slotOf_lt hs
      obtain ⟨-, -, hix2⟩ := slotOf_lt hsl
      rw [hd.base, hd.stride] at hix
      rw [hix2] at hix
      have e : 12 + q = j := by omega
      subst e
      rw [getD_get hj] at hg
      rw [hg] at hu
      cases hu
end
end Go.Proofs.YthiiehanlconeaaDoor
namespace Go.Proofs.YthiiehanlconeaaDoor
open Go.RowKit
set_option linter.unusedVariables false
set_option linter.unusedSimpArgs false

section
variable {α : Type} {A : Rep α} {w W W' : World} {b o : Nat} {a : α} {F : List Nat}
theorem Own.beside {S : Nat → Prop} (h : Own A w W b o a F) (hc : Chg S W W') (hd : ∀ k ∈ b :: F, ¬ S k) (hlo : ∀ k, S k → w.heap.size ≤ k) : Own A w W' b o a F :=
  ⟨h.here.chg hc (hd b (List.mem_cons_self ..)) (fun k hk => hd k (List.mem_cons_of_mem _ hk)), h.chg.trans hc (fun _ _ x => x) (fun i hi x => by have := hlo i x; omega), h.lo, h.los⟩
theorem Own.allLt (h : Own A w W b o a F) : ∀ k ∈ b :: F, k < W.heap.size := fun k hk => by
  rcases List.mem_cons.1 hk with rfl | hk
  · exact h.here.lt.1
  · exact h.here.lt.2 k hk
theorem Own.allLo (h : Own A w W b o a F) : ∀ k ∈ b :: F, w.heap.size ≤ k := fun k hk => by
  rcases List.mem_cons.1 hk with rfl | hk
  · exact h.lo
  · exact h.los k hk
end
theorem apart_grow {b N : Nat} {F F' X : List Nat} (h : ∀ k ∈ b :: F, k ∉ X) (hn : ∀ k ∈ F', k ∈ F ∨ N ≤ k) (hx : ∀ k ∈ X, k < N) : ∀ k ∈ b :: F', k ∉ X := fun k hk x => by
  rcases List.mem_cons.1 hk with rfl | hk
  · exact h _ (List.mem_cons_self ..) x
  · rcases hn k hk with y | y
    · exact h k (List.mem_cons_of_mem _ y) x
    · have := hx k x; omega
structure HL (w W : World) (bh : Nat) (hp : Hp) (v : Value) (L : List Int) (F : List Nat) : Prop where
  heap : Own hpR w W bh 0 hp F
  li : OutI w W v L
  d : ∀ k ∈ bh :: F, k ∉ ownL v
section
variable {w W W' : World} {bh : Nat} {hp hp' : Hp} {v v' : Value} {L L' : List Int} {F : List Nat}
theorem HL.still (h : HL w W bh hp v L F) (hc : Chg (fun _ => False) W W') : HL w W' bh hp v L F := ⟨h.heap.still hc, h.li.still hc, h.d⟩
theorem HL.heapS (h : HL w W bh hp v L F) (hp1 : Post hpR W bh 0 hp' F W') : ∃ F', HL w W' bh hp' v L F' := by
  obtain ⟨F', h1, h2⟩ := hp1
  have hS : ∀ k, (k = bh ∨ k ∈ F) → k ∈ bh :: F := fun k x => x.elim (fun e => e ▸ List.mem_cons_self ..) (List.mem_cons_of_mem _)
  have hlo : ∀ k, (k = bh ∨ k ∈ F) → w.heap.size ≤ k := fun k x => h.heap.allLo k (hS k x)
  exact ⟨F', h.heap.step h1 h2, h.li.other h2.chg (fun k hk x => h.d k (hS k x) (mem_ownL.2 hk)) (fun k hk x => by have := hlo k x; omega),
    apart_grow h.d h2.new (fun k hk => h.li.row.lt k (mem_ownL.1 hk))⟩
theorem HL.liS (h : HL w W bh hp v L F) (hc : Chg (fun k => v.ownBlock = some k) W W') (ho : OutI w W' v' L') (hold : ∀ k, v'.ownBlock = some k → v.ownBlock = some k ∨ W.heap.size ≤ k) : HL w W' bh hp v' L' F :=
  ⟨h.heap.beside hc (fun k hk x => h.d k hk (mem_ownL.2 x)) h.li.lo, ho, fun k hk x => by
    rcases hold k (mem_ownL.1 x) with y | y
    · exact h.d k hk (mem_ownL.2 y)
    · have := h.heap.allLt k hk; omega⟩
theorem HL.of (h : Own hpR w W bh 0 hp F) : HL w W bh hp (.slice none 0 0) [] F :=
  ⟨h, ⟨RowAt.nil _ _ _, fun k hk => by simp [Value.ownBlock] at hk, h.chg⟩, fun k hk x => by simp [ownL, Value.ownBlock] at x⟩
end
end Go.Proofs.YthiiehanlconeaaDoor
namespace Go.Proofs.YthiiehanlconeaaDoor
open Go.RowKit
set_option linter.unusedVariables false
set_option linter.unusedSimpArgs false

theorem chg_put {W W' : World} {b k : Nat} {v : Value} (h : Chg (fun j => j = b) W W') : Chg (fun j => j = b) W (W'.setCell ⟨b, k, none⟩ v) := h.trans' (show Chg (fun j => j = b) W' (W'.setCell ⟨b, k, none⟩ v) from Chg.setCell W' ⟨b, k, none⟩ v)
theorem results_cell_row_tmp {fn : Func} {p u : Tmp} {ty : TypeId} {P : Program} (h : fn.results = #[.cell p ty, .tmp u]) (tmps : Array Value) (w : World) (g : Nat) (cs : Array Value)
    (hp : tmps.getD p undef = .pointer (some ⟨g, 0, none⟩)) (hl : (loadVar ty ⟨g, 0, none⟩).run P w = .ok (.agg cs) w) :
    (results fn tmps).run P w = .ok (.tuple #[.agg cs, tmps.getD u undef]) w := by
  have hp' : tmps[p]?.getD undef = .pointer (some ⟨g, 0, none⟩) := by simpa using hp
  rw [results_cell_tmp h]
  simp [hp', asAddr, hl, Result.andThen]
/-- Ten cells of a block stored one after the other. -/
theorem store10 {w : World} {g T : Nat} {u0 u1 u2 u3 u4 u5 u6 u7 u8 u9 : Value} (b0 : w.heap[g]? = some (.cells #[u0, u1, u2, u3, u4, u5, u6, u7, u8, u9] T (0, 0))) (v0 v1 v2 v3 v4 v5 v6 v7 v8 v9 : Value) :
    w.cell? ⟨g, 0, none⟩ = some u0 ∧ w.frozen? ⟨g, 0, none⟩ = false ∧
    (w.setCell ⟨g, 0, none⟩ v0).cell? ⟨g, 1, none⟩ = some u1 ∧ (w.setCell ⟨g, 0, none⟩ v0).frozen? ⟨g, 1, none⟩ = false ∧
    ((w.setCell ⟨g, 0, none⟩ v0).setCell ⟨g, 1, none⟩ v1).cell? ⟨g, 2, none⟩ = some u2 ∧ ((w.setCell ⟨g, 0, none⟩ v0).setCell ⟨g, 1, none⟩ v1).frozen? ⟨g, 2, none⟩ = false ∧
    (((w.setCell ⟨g, 0, none⟩ v0).setCell ⟨g, 1, none⟩ v1).setCell ⟨g, 2, none⟩ v2).cell? ⟨g, 3, none⟩ = some u3 ∧ (((w.setCell ⟨g, 0, none⟩ v0).setCell ⟨g, 1, none⟩ v1).setCell ⟨g, 2, none⟩ v2).frozen? ⟨g, 3, none⟩ = false ∧
    ((((w.setCell ⟨g, 0, none⟩ v0).setCell ⟨g, 1, none⟩ v1).setCell ⟨g, 2, none⟩ v2).setCell ⟨g, 3, none⟩ v3).cell? ⟨g, 4, none⟩ = some u4 ∧ ((((w.setCell ⟨g, 0, none⟩ v0).setCell ⟨g, 1, none⟩ v1).setCell ⟨g, 2, none⟩ v2).setCell ⟨g, 3, none⟩ v3).frozen? ⟨g, 4, none⟩ = false ∧
    (((((w.setCell ⟨g, 0, none⟩ v0).setCell ⟨g, 1, none⟩ v1).setCell ⟨g, 2, none⟩ v2).setCell ⟨g, 3, none⟩ v3).setCell ⟨g, 4, none⟩ v4).cell? ⟨g, 5, none⟩ = some u5 ∧ (((((w.setCell ⟨g, 0, none⟩ v0).setCell ⟨g, 1, none⟩ v1).setCell ⟨g, 2, none⟩ v2).setCell ⟨g, 3, none⟩ v3).setCell ⟨g, 4, none⟩ v4).frozen? ⟨g, 5, none⟩ = false ∧
    ((((((w.setCell ⟨g, 0, none⟩ v0).setCell ⟨g, 1, none⟩ v1).setCell ⟨g, 2, none⟩ v2).setCell ⟨g, 3, none⟩ v3).setCell ⟨g, 4, none⟩ v4).setCell ⟨g, 5, none⟩ v5).cell? ⟨g, 6, none⟩ = some u6 ∧ ((((((w.setCell ⟨g, 0, none⟩ v0).setCell ⟨g, 1, none⟩ v1).setCell ⟨g, 2, none⟩ v2).setCell ⟨g, 3, none⟩ v3).setCell ⟨g, 4, none⟩ v4).setCell ⟨g, 5, none⟩ v5).frozen? ⟨g, 6, none⟩ = false ∧
    (((((((w.setCell ⟨g, 0, none⟩ v0).setCell ⟨g, 1, none⟩ v1).setCell ⟨g, 2, none⟩ v2).setCell ⟨g, 3, none⟩ v3).setCell ⟨g, 4, none⟩ v4).setCell ⟨g, 5, none⟩ v5).setCell ⟨g, 6, none⟩ v6).cell? ⟨g, 7, none⟩ = some u7 ∧ (((((((w.setCell ⟨g, 0, none⟩ v0).setCell ⟨g, 1, none⟩ v1).setCell ⟨g, 2, none⟩ v2).setCell ⟨g, 3, none⟩ v3).setCell ⟨g, 4, none⟩ v4).setCell ⟨g, 5, none⟩ v5).setCell ⟨g, 6, none⟩ v6).frozen? ⟨g, 7, none⟩ = false ∧
    ((((((((w.setCell ⟨g, 0, none⟩ v0).setCell ⟨g, 1, none⟩ v1).setCell ⟨g, 2, none⟩ v2).setCell ⟨g, 3, none⟩ v3).setCell ⟨g, 4, none⟩ v4).setCell ⟨g, 5, none⟩ v5).setCell ⟨g, 6, none⟩ v6).setCell ⟨g, 7, none⟩ v7).cell? ⟨g, 8, none⟩ = some u8 ∧ ((((((((w.setCell ⟨g, 0, none⟩ v0).setCell ⟨g, 1, none⟩ v1).setCell ⟨g, 2, none⟩ v2).setCell ⟨g, 3, none⟩ v3).setCell ⟨g, 4, none⟩ v4).setCell ⟨g, 5, none⟩ v5).setCell ⟨g, 6, none⟩ v6).setCell ⟨g, 7, none⟩ v7).frozen? ⟨g, 8, none⟩ = false ∧
    (((((((((w.setCell ⟨g, 0, none⟩ v0).setCell ⟨g, 1, none⟩ v1).setCell ⟨g, 2, none⟩ v2).setCell ⟨g, 3, none⟩ v3).setCell ⟨g, 4, none⟩ v4).setCell ⟨g, 5, none⟩ v5).setCell ⟨g, 6, none⟩ v6).setCell ⟨g, 7, none⟩ v7).setCell ⟨g, 8, none⟩ v8).cell? ⟨g, 9, none⟩ = some u9 ∧ (((((((((w.setCell ⟨g, 0, none⟩ v0).setCell ⟨g, 1, none⟩ v1).setCell ⟨g, 2, none⟩ v2).setCell ⟨g, 3, none⟩ v3).setCell ⟨g, 4, none⟩ v4).setCell ⟨g, 5, none⟩ v5).setCell ⟨g, 6, none⟩ v6).setCell ⟨g, 7, none⟩ v7).setCell ⟨g, 8, none⟩ v8).frozen? ⟨g, 9, none⟩ = false ∧
    ((((((((((w.setCell ⟨g, 0, none⟩ v0).setCell ⟨g, 1, none⟩ v1).setCell ⟨g, 2, none⟩ v2).setCell ⟨g, 3, none⟩ v3).setCell ⟨g, 4, none⟩ v4).setCell ⟨g, 5, none⟩ v5).setCell ⟨g, 6, none⟩ v6).setCell ⟨g, 7, none⟩ v7).setCell ⟨g, 8, none⟩ v8).setCell ⟨g, 9, none⟩ v9).heap[g]? = some (.cells #[v0, v1, v2, v3, v4, v5, v6, v7, v8, v9] T (0, 0)) ∧ Chg (fun k => k = g) w ((((((((((w.setCell ⟨g, 0, none⟩ v0).setCell ⟨g, 1, none⟩ v1).setCell ⟨g, 2, none⟩ v2).setCell ⟨g, 3, none⟩ v3).setCell ⟨g, 4, none⟩ v4).setCell ⟨g, 5, none⟩ v5).setCell ⟨g, 6, none⟩ v6).setCell ⟨g, 7, none⟩ v7).setCell ⟨g, 8, none⟩ v8).setCell ⟨g, 9, none⟩ v9) := by
  have c0 : w.cell? ⟨g, 0, none⟩ = some u0 := cell_of_block b0 rfl
  have f0 : w.frozen? ⟨g, 0, none⟩ = false := frozen_of_block b0
  have b1 : (w.setCell ⟨g, 0, none⟩ v0).heap[g]? = some (.cells #[v0, u1, u2, u3, u4, u5, u6, u7, u8, u9] T (0, 0)) := setCell_block (i := 0) v0 b0
  have c1 : (w.setCell ⟨g, 0, none⟩ v0).cell? ⟨g, 1, none⟩ = some u1 := cell_of_block b1 rfl
  have f1 : (w.setCell ⟨g, 0, none⟩ v0).frozen? ⟨g, 1, none⟩ = false := frozen_of_block b1
  have b2 : ((w.setCell ⟨g, 0, none⟩ v0).setCell ⟨g, 1, none⟩ v1).heap[g]? = some (.cells #[v0, v1, u2, u3, u4, u5, u6, u7, u8, u9] T (0, 0)) := setCell_block (i := 1) v1 b1
  have c2 : ((w.setCell ⟨g, 0, none⟩ v0).setCell ⟨g, 1, none⟩ v1).cell? ⟨g, 2, none⟩ = some u2 := cell_of_block b2 rfl
  have f2 : ((w.setCell ⟨g, 0, none⟩ v0).setCell ⟨g, 1, none⟩ v1).frozen? ⟨g, 2, none⟩ = false := frozen_of_block b2
  have b3 : (((w.setCell ⟨g, 0, none⟩ v0).setCell ⟨g, 1, none⟩ v1).setCell ⟨g, 2, none⟩ v2).heap[g]? = some (.cells #[v0, v1, v2, u3, u4, u5, u6, u7, u8, u9] T (0, 0)) := setCell_block (i := 2) v2 b2
  have c3 : (((w.setCell ⟨g, 0, none⟩ v0).setCell ⟨g, 1, none⟩ v1).setCell ⟨g, 2, none⟩ v2).cell? ⟨g, 3, none⟩ = some u3 := cell_of_block b3 rfl
  have f3 : (((w.setCell ⟨g, 0, none⟩ v0).setCell ⟨g, 1, none⟩ v1).setCell ⟨g, 2, none⟩ v2).frozen? ⟨g, 3, none⟩ = false := frozen_of_block b3
  have b4 : ((((w.setCell ⟨g, 0, none⟩ v0).setCell ⟨g, 1, none⟩ v1).setCell ⟨g, 2, none⟩ v2).setCell ⟨g, 3, none⟩ v3).heap[g]? = some (.cells #[v0, v1, v2, v3, u4, u5, u6, u7, u8, u9] T (0, 0)) := setCell_block (i := 3) v3 b3
  have c4 : ((((w.setCell ⟨g, 0, none⟩ v0).setCell ⟨g, 1, none⟩ v1).setCell ⟨g, 2, none⟩ v2).setCell ⟨g, 3, none⟩ v3).cell? ⟨g, 4, none⟩ = some u4 := cell_of_block b4 rfl
  have f4 : ((((w.setCell ⟨g, 0, none⟩ v0).setCell ⟨g, 1, none⟩ v1).setCell ⟨g, 2, none⟩ v2).setCell ⟨g, 3, none⟩ v3).frozen? ⟨g, 4, none⟩ = false := frozen_of_block b4
  have b5 : (((((w.setCell ⟨g, 0, none⟩ v0).setCell ⟨g, 1, none⟩ v1).setCell ⟨g, 2, none⟩ v2).setCell ⟨g, 3, none⟩ v3).setCell ⟨g, 4, none⟩ v4).heap[g]? = some (.cells #[v0, v1, v2, v3, v4, u5, u6, u7, u8, u9] T (0, 0)) := setCell_block (i := 4) v4 b4
  have c5 : (((((w.setCell ⟨g, 0, none⟩ v0).setCell ⟨g, 1, none⟩ v1).setCell ⟨g, 2, none⟩ v2).setCell ⟨g, 3, none⟩ v3).setCell ⟨g, 4, none⟩ v4).cell? ⟨g, 5, none⟩ = some u5 := cell_of_block b5 rfl
  have f5 : (((((w.setCell ⟨g, 0, none⟩ v0).setCell ⟨g, 1, none⟩ v1).setCell ⟨g, 2, none⟩ v2).setCell ⟨g, 3, none⟩ v3).setCell ⟨g, 4, none⟩ v4).frozen? ⟨g, 5, none⟩ = false := frozen_of_block b5
  have b6 : ((((((w.setCell ⟨g, 0, none⟩ v0).setCell ⟨g, 1, none⟩ v1).setCell ⟨g, 2, none⟩ v2).setCell ⟨g, 3, none⟩ v3).setCell ⟨g, 4, none⟩ v4).setCell ⟨g, 5, none⟩ v5).heap[g]? = some (.cells #[v0, v1, v2, v3, v4, v5, u6, u7, u8, u9] T (0, 0)) := setCell_block (i := 5) v5 b5
  have c6 : ((((((w.setCell ⟨g, 0, none⟩ v0).setCell ⟨g, 1, none⟩ v1).setCell ⟨g, 2, none⟩ v2).setCell ⟨g, 3, none⟩ v3).setCell ⟨g, 4, none⟩ v4).setCell ⟨g, 5, none⟩ v5).cell? ⟨g, 6, none⟩ = some u6 := cell_of_block b6 rfl
  have f6 : ((((((w.setCell ⟨g, 0, none⟩ v0).setCell ⟨g, 1, none⟩ v1).setCell ⟨g, 2, none⟩ v2).setCell ⟨g, 3, none⟩ v3).setCell ⟨g, 4, none⟩ v4).setCell ⟨g, 5, none⟩ v5).frozen? ⟨g, 6, none⟩ = false := frozen_of_block b6
  have b7 : (((((((w.setCell ⟨g, 0, none⟩ v0).setCell ⟨g, 1, none⟩ v1).setCell ⟨g, 2, none⟩ v2).setCell ⟨g, 3, none⟩ v3).setCell ⟨g, 4, none⟩ v4).setCell ⟨g, 5, none⟩ v5).setCell ⟨g, 6, none⟩ v6).heap[g]? = some (.cells #[v0, v1, v2, v3, v4, v5, v6, u7, u8, u9] T (0, 0)) := setCell_block (i := 6) v6 b6
  have c7 : (((((((w.setCell ⟨g, 0, none⟩ v0).setCell ⟨g, 1, none⟩ v1).setCell ⟨g, 2, none⟩ v2).setCell ⟨g, 3, none⟩ v3).setCell ⟨g, 4, none⟩ v4).setCell ⟨g, 5, none⟩ v5).setCell ⟨g, 6, none⟩ v6).cell? ⟨g, 7, none⟩ = some u7 := cell_of_block b7 rfl
  have f7 : (((((((w.setCell ⟨g, 0, none⟩ v0).setCell ⟨g, 1, none⟩ v1).setCell ⟨g, 2, none⟩ v2).setCell ⟨g, 3, none⟩ v3).setCell ⟨g, 4, none⟩ v4).setCell ⟨g, 5, none⟩ v5).setCell ⟨g, 6, none⟩ v6).frozen? ⟨g, 7, none⟩ = false := frozen_of_block b7
  have b8 : ((((((((w.setCell ⟨g, 0, none⟩ v0).setCell ⟨g, 1, none⟩ v1).setCell ⟨g, 2, none⟩ v2).setCell ⟨g, 3, none⟩ v3).setCell ⟨g, 4, none⟩ v4).setCell ⟨g, 5, none⟩ v5).setCell ⟨g, 6, none⟩ v6).setCell ⟨g, 7, none⟩ v7).heap[g]? = some (.cells #[v0, v1, v2, v3, v4, v5, v6, v7, u8, u9] T (0, 0)) := setCell_block (i := 7) v7 b7
  have c8 : ((((((((w.setCell ⟨g, 0, none⟩ v0).setCell ⟨g, 1, none⟩ v1).setCell ⟨g, 2, none⟩ v2).setCell ⟨g, 3, none⟩ v3).setCell ⟨g, 4, none⟩ v4).setCell ⟨g, 5, none⟩ v5).setCell ⟨g, 6, none⟩ v6).setCell ⟨g, 7, none⟩ v7).cell? ⟨g, 8, none⟩ = some u8 := cell_of_block b8 rfl
  have f8 : ((((((((w.setCell ⟨g, 0, none⟩ v0).setCell ⟨g, 1, none⟩ v1).setCell ⟨g, 2, none⟩ v2).setCell ⟨g, 3, none⟩ v3).setCell ⟨g, 4, none⟩ v4).setCell ⟨g, 5, none⟩ v5).setCell ⟨g, 6, none⟩ v6).setCell ⟨g, 7, none⟩ v7).frozen? ⟨g, 8, none⟩ = false := frozen_of_block b8
  have b9 : (((((((((w.setCell ⟨g, 0, none⟩ v0).setCell ⟨g, 1, none⟩ v1).setCell ⟨g, 2, none⟩ v2).setCell ⟨g, 3, none⟩ v3).setCell ⟨g, 4, none⟩ v4).setCell ⟨g, 5, none⟩ v5).setCell ⟨g, 6, none⟩ v6).setCell ⟨g, 7, none⟩ v7).setCell ⟨g, 8, none⟩ v8).heap[g]? = some (.cells #[v0, v1, v2, v3, v4, v5, v6, v7, v8, u9] T (0, 0)) := setCell_block (i := 8) v8 b8
  have c9 : (((((((((w.setCell ⟨g, 0, none⟩ v0).setCell ⟨g, 1, none⟩ v1).setCell ⟨g, 2, none⟩ v2).setCell ⟨g, 3, none⟩ v3).setCell ⟨g, 4, none⟩ v4).setCell ⟨g, 5, none⟩ v5).setCell ⟨g, 6, none⟩ v6).setCell ⟨g, 7, none⟩ v7).setCell ⟨g, 8, none⟩ v8).cell? ⟨g, 9, none⟩ = some u9 := cell_of_block b9 rfl
  have f9 : (((((((((w.setCell ⟨g, 0, none⟩ v0).setCell ⟨g, 1, none⟩ v1).setCell ⟨g, 2, none⟩ v2).setCell ⟨g, 3, none⟩ v3).setCell ⟨g, 4, none⟩ v4).setCell ⟨g, 5, none⟩ v5).setCell ⟨g, 6, none⟩ v6).setCell ⟨g, 7, none⟩ v7).setCell ⟨g, 8, none⟩ v8).frozen? ⟨g, 9, none⟩ = false := frozen_of_block b9
  have b10 : ((((((((((w.setCell ⟨g, 0, none⟩ v0).setCell ⟨g, 1, none⟩ v1).setCell ⟨g, 2, none⟩ v2).setCell ⟨g, 3, none⟩ v3).setCell ⟨g, 4, none⟩ v4).setCell ⟨g, 5, none⟩ v5).setCell ⟨g, 6, none⟩ v6).setCell ⟨g, 7, none⟩ v7).setCell ⟨g, 8, none⟩ v8).setCell ⟨g, 9, none⟩ v9).heap[g]? = some (.cells #[v0, v1, v2, v3, v4, v5, v6, v7, v8, v9] T (0, 0)) := setCell_block (i := 9) v9 b9
  exact ⟨c0, f0, c1, f1, c2, f2, c3, f3, c4, f4, c5, f5, c6, f6, c7, f7, c8, f8, c9, f9, b10, chg_put (chg_put (chg_put (chg_put (chg_put (chg_put (chg_put (chg_put (chg_put (chg_put (Chg.refl _ _))))))))))⟩

def getO (hp : Hp) (h : Int) : Obj := match slotOf hp h with | some i => (hp.slots.getD i noSlt).obj | none => noSlt.obj
theorem objCells {w : World} {g o : Nat} {x : Obj} {G : List Nat} (H : Here objR w g o x G) : ∃ a1 n1 c1 a2 n2 c2 a3 n3 c3 a4 n4 c4, RowAt w 38 4 (.slice a3 n3 c3) x.data.length (x.data.flatMap Val.cells) ∧ (∀ k, (Value.slice a3 n3 c3).ownBlock = some k → k ∈ G) ∧ w.cell? ⟨g, o, none⟩ = some (.int .i64 x.kind) ∧ w.cell? ⟨g, o + 1, none⟩ = some (.int .i64 x.proto) ∧ w.cell? ⟨g, o + 2, none⟩ = some (.slice a1 n1 c1) ∧ w.cell? ⟨g, o + 3, none⟩ = some (.slice a2 n2 c2) ∧ w.cell? ⟨g, o + 4, none⟩ = some (.slice a3 n3 c3) ∧ w.cell? ⟨g, o + 5, none⟩ = some (.int .i64 x.code) ∧ w.cell? ⟨g, o + 6, none⟩ = some (.int .i64 x.env) ∧ w.cell? ⟨g, o + 7, none⟩ = some (.int .i64 x.cls) ∧ w.cell? ⟨g, o + 8, none⟩ = some (.int .i64 x.ref) ∧ w.cell? ⟨g, o + 9, none⟩ = some (.slice a4 n4 c4) := by
  obtain ⟨cs, ⟨vp, ve, vd, vs, F1, F2, F3, F4, rfl, h1, h2, h3, h4, hG⟩, hc⟩ := H.cell
  obtain ⟨v3, e3, r3, eF3⟩ := row_flat.1 h3
  obtain rfl : vd = v3 := by simpa using e3
  obtain ⟨_, _, p1⟩ := Rep.opened h1
  obtain ⟨a1, c1, rfl, -, -⟩ := p1.val
  obtain ⟨_, _, p2⟩ := Rep.opened h2
  obtain ⟨a2, c2, rfl, -, -⟩ := p2.val
  obtain ⟨a3, c3, rfl, -⟩ := r3.slice
  obtain ⟨_, _, p4⟩ := Rep.opened h4
  obtain ⟨a4, c4, rfl, -, -⟩ := p4.val
  exact ⟨a1, _, c1, a2, _, c2, a3, _, c3, a4, _, c4, r3, (fun k hk => by rw [hG, eF3]; simp [mem_ownL, hk]), hc 0 _ rfl, hc 1 _ rfl, hc 2 _ rfl, hc 3 _ rfl, hc 4 _ rfl, hc 5 _ rfl, hc 6 _ rfl, hc 7 _ rfl, hc 8 _ rfl, hc 9 _ rfl⟩
end Go.Proofs.YthiiehanlconeaaDoor
namespace Go.Proofs.YthiiehanlconeaaDoor
open Go.RowKit
set_option linter.unusedVariables false
set_option linter.unusedSimpArgs false

set_option maxHeartbeats 6400000 in
set_option maxRecDepth 100000 in
theorem own_not (w : World) (b : Nat) (hp : Hp) (F : List Nat) (h : Int) (i : Nat) (key : ByteArray) (H : Here hpR w b 0 hp F) (hi : -9223372036854775808 ≤ h ∧ h ≤ 9223372036854775807) (hs : slotOf hp h = some i) (hl : i < hp.slots.length) (hk : hp.slots[i].obj.kind ≠ 1)
    (hf : findP key hp.slots[i].obj.props 0 = none) :
    Calls Tryd.prog 14 #[.pointer (some ⟨b, 0, none⟩), .int .i64 h, .string key] w fun e w' => e = .returned (.tuple #[.agg #[.int .i64 0, .int .i64 0, .string ⟨#[]⟩, .int .i64 0], .bool false]) ∧ Chg (fun _ => False) w w' := by
  have hca := Chg.alloc (fun _ => False) w (.cells #[.int .i64 0, .int .i64 0, .string ⟨#[]⟩, .int .i64 0] 38)
  have kb := alloc_block w (.cells #[.int .i64 0, .int .i64 0, .string ⟨#[]⟩, .int .i64 0] 38)
  have HKB := Lib.hid kb
  obtain ⟨gh, oh, kh, c2, G, HOBJ0, hGF, hput⟩ := hpPut H hl
  obtain ⟨vp, ve, vd, vs, HOC⟩ := objOpen HOBJ0
  have z1 : (hp.slots[i].obj.kind == 1) = false := beq_false_of_ne hk
  have hat := hat_any _ b 0 hp F h _ (H.still hca) (by rw [Nat.zero_add]; exact hca.cell c2) hi
  rw [hs, show objPtr (.slice (some ⟨gh, oh, none⟩) hp.slots.length kh) (some i) = some ⟨gh, oh + i * 11 + 1, none⟩ from rfl] at hat
  have HAT := Lib.hid hat
  have HC0 := Lib.hid HOC.c0
  have HC2 := Lib.hid HOC.c2
  have HRP := Lib.hid HOC.rp
  generalize hp.slots[i].obj = x at *
  have HCA := Lib.hid hca
  have HF := Lib.hid hf
  clear kb hca HOBJ0 hGF hput HOC c2 hi hs H hk hat hf
  go_enter Tryd.func14, Tryd.ntmps14
  go_upto_region 1 with fail
  generalize w.alloc (.cells #[.int .i64 0, .int .i64 0, .string ⟨#[]⟩, .int .i64 0] 38) = w1 at *
  generalize hb6 : w.heap.size = b6 at *
  have HB6 := Lib.hid hb6
  clear hb6
  go_upto_region 4 with (go_at_call 24; refine HAT.out.mono ?_; rintro e wa ⟨rfl, hca⟩)
  have HC1 := Lib.hid (HCA.out.trans' hca)
  have HKB2 := Lib.hid (hca.keep HKB.out (fun x => x))
  have c0 := HC1.out.cell HC0.out
  have HPL := Lib.hid (place_any wa gh (oh + i * 11 + 1) _ x.props key (HC1.out.cell HC2.out) (HRP.out.chg HC1.out (fun _ _ x => x)))
  rw [HF.out] at HPL
  clear hca HAT HKB HCA
  go_upto_region 13 with (go_at_call 28; refine HPL.out.mono ?_; rintro e w5 ⟨rfl, hc5⟩)
  have HC5 := Lib.hid (HC1.out.trans' hc5)
  have HK5 := Lib.hid (hc5.keep HKB2.out (fun x => x))
  clear hc5 HPL c0 z1
  rw [show idxP none = -1 from rfl]
  obtain ⟨z0, q0, z1, q1, z2, q2, z3, q3, hbf, hcs⟩ := store4 HK5.out (.int .i64 0) (.int .i64 0) (.string ⟨#[]⟩) (.int .i64 0)
  go_wp2_with fail
  generalize ((((w5.setCell ⟨b6, 0, none⟩ (.int .i64 0)).setCell ⟨b6, 1, none⟩ (.int .i64 0)).setCell ⟨b6, 2, none⟩ (.string ⟨#[]⟩)).setCell ⟨b6, 3, none⟩ (.int .i64 0)) = wz at *
  refine bodyPost_ret (results_cell_row_tmp rfl _ _ b6 #[.int .i64 0, .int .i64 0, .string ⟨#[]⟩, .int .i64 0] (by rfl) (run_loadVar_row _ b6 38 38 _ _ _ hbf Tryd.underlying38 rfl (by kernel_rfl))) rfl ?_
  exact ⟨rfl, HC5.out.trans hcs (fun _ _ x => x) (fun k hk e => by have := HB6.out; omega)⟩
set_option maxHeartbeats 6400000 in
set_option maxRecDepth 100000 in
theorem own_has (w : World) (b : Nat) (hp : Hp) (F : List Nat) (h : Int) (i : Nat) (key : ByteArray) (j : Nat) (H : Here hpR w b 0 hp F) (hi : -9223372036854775808 ≤ h ∧ h ≤ 9223372036854775807) (hs : slotOf hp h = some i) (hl : i < hp.slots.length) (hk : hp.slots[i].obj.kind ≠ 1)
    (hf : findP key hp.slots[i].obj.props 0 = some j) (hj : j < hp.slots[i].obj.props.length) (hlp : hp.slots[i].obj.props.length ≤ 1000000) :
    Calls Tryd.prog 14 #[.pointer (some ⟨b, 0, none⟩), .int .i64 h, .string key] w fun e w' => e = .returned (.tuple #[.agg #[.int .i64 hp.slots[i].obj.props[j].vkind, .int .i64 hp.slots[i].obj.props[j].vint, .string hp.slots[i].obj.props[j].vstr, .int .i64 hp.slots[i].obj.props[j].vref], .bool true]) ∧ Chg (fun _ => False) w w' := by
  have hca := Chg.alloc (fun _ => False) w (.cells #[.int .i64 0, .int .i64 0, .string ⟨#[]⟩, .int .i64 0] 38)
  have kb := alloc_block w (.cells #[.int .i64 0, .int .i64 0, .string ⟨#[]⟩, .int .i64 0] 38)
  have HKB := Lib.hid kb
  obtain ⟨gh, oh, kh, c2, G, HOBJ0, hGF, hput⟩ := hpPut H hl
  obtain ⟨vp, ve, vd, vs, HOC⟩ := objOpen HOBJ0
  have z1 : (hp.slots[i].obj.kind == 1) = false := beq_false_of_ne hk
  have hat := hat_any _ b 0 hp F h _ (H.still hca) (by rw [Nat.zero_add]; exact hca.cell c2) hi
  rw [hs, show objPtr (.slice (some ⟨gh, oh, none⟩) hp.slots.length kh) (some i) = some ⟨gh, oh + i * 11 + 1, none⟩ from rfl] at hat
  have HAT := Lib.hid hat
  have HC0 := Lib.hid HOC.c0
  have HC2 := Lib.hid HOC.c2
  have HRP := Lib.hid HOC.rp
  generalize hp.slots[i].obj = x at *
  have HCA := Lib.hid hca
  have HF := Lib.hid hf
  clear kb hca HOBJ0 hGF hput HOC c2 hi hs H hk hat hf
  go_enter Tryd.func14, Tryd.ntmps14
  go_upto_region 1 with fail
  generalize w.alloc (.cells #[.int .i64 0, .int .i64 0, .string ⟨#[]⟩, .int .i64 0] 38) = w1 at *
  generalize hb6 : w.heap.size = b6 at *
  have HB6 := Lib.hid hb6
  clear hb6
  go_upto_region 4 with (go_at_call 24; refine HAT.out.mono ?_; rintro e wa ⟨rfl, hca⟩)
  have HC1 := Lib.hid (HCA.out.trans' hca)
  have HKB2 := Lib.hid (hca.keep HKB.out (fun x => x))
  have c0 := HC1.out.cell HC0.out
  have HPL := Lib.hid (place_any wa gh (oh + i * 11 + 1) _ x.props key (HC1.out.cell HC2.out) (HRP.out.chg HC1.out (fun _ _ x => x)))
  rw [HF.out] at HPL
  clear hca HAT HKB HCA
  go_upto_region 13 with (go_at_call 28; refine HPL.out.mono ?_; rintro e w5 ⟨rfl, hc5⟩)
  have HC5 := Lib.hid (HC1.out.trans' hc5)
  have HK5 := Lib.hid (hc5.keep HKB2.out (fun x => x))
  have c2 := HC5.out.cell HC2.out
  clear hc5 HPL c0 z1
  rw [show idxP (some j) = (j : Int) from rfl]
  have hr2 := HRP.out.chg HC5.out (fun _ _ x => x)
  obtain ⟨gp, opp, cp, rfl, -, -⟩ := hr2.addr (by omega)
  have hcells : ∀ t u, x.props[j].cells[t]? = some u → t < 5 → w5.cell? ⟨gp, opp + j * 5 + t, none⟩ = some u := fun t u hu ht => by
    rw [Nat.add_assoc]
    exact hr2.cellAt (j * 5 + t) u (by rw [flat_get _ 5 Prp.len x.props j t hj ht]; exact hu)
  have p1 := hcells 1 _ rfl (by omega)
  have p2 := hcells 2 _ rfl (by omega)
  have p3 := hcells 3 _ rfl (by omega)
  have p4 := hcells 4 _ rfl (by omega)
  have j0 : (0 : Int) ≤ (j : Int) := by omega
  have j1 : (j : Int) < (x.props.length : Int) := by omega
  obtain ⟨z0, q0, z1, q1, z2, q2, z3, q3, hbf, hcs⟩ := store4 HK5.out (.int .i64 x.props[j].vkind) (.int .i64 x.props[j].vint) (.string x.props[j].vstr) (.int .i64 x.props[j].vref)
  clear hcells hr2
  go_wp2_with fail
  generalize ((((w5.setCell ⟨b6, 0, none⟩ (.int .i64 x.props[j].vkind)).setCell ⟨b6, 1, none⟩ (.int .i64 x.props[j].vint)).setCell ⟨b6, 2, none⟩ (.string x.props[j].vstr)).setCell ⟨b6, 3, none⟩ (.int .i64 x.props[j].vref)) = wz at *
  refine bodyPost_ret (results_cell_row_tmp rfl _ _ b6 #[.int .i64 x.props[j].vkind, .int .i64 x.props[j].vint, .string x.props[j].vstr, .int .i64 x.props[j].vref] (by rfl) (run_loadVar_row _ b6 38 38 _ _ _ hbf Tryd.underlying38 rfl (by kernel_rfl))) rfl ?_
  exact ⟨rfl, HC5.out.trans hcs (fun _ _ x => x) (fun k hk e => by have := HB6.out; omega)⟩
set_option maxHeartbeats 6400000 in
set_option maxRecDepth 100000 in
theorem own_nil (w : World) (b : Nat) (hp : Hp) (F : List Nat) (h : Int) (key : ByteArray) (H : Here hpR w b 0 hp F) (hi : -9223372036854775808 ≤ h ∧ h ≤ 9223372036854775807) (hs : slotOf hp h = none) :
    Calls Tryd.prog 14 #[.pointer (some ⟨b, 0, none⟩), .int .i64 h, .string key] w fun e w' => e = .returned (.tuple #[.agg #[.int .i64 0, .int .i64 0, .string ⟨#[]⟩, .int .i64 0], .bool false]) ∧ Chg (fun _ => False) w w' := by
  have hca := Chg.alloc (fun _ => False) w (.cells #[.int .i64 0, .int .i64 0, .string ⟨#[]⟩, .int .i64 0] 38)
  have kb := alloc_block w (.cells #[.int .i64 0, .int .i64 0, .string ⟨#[]⟩, .int .i64 0] 38)
  have HKB := Lib.hid kb
  obtain ⟨-, -, ⟨a, cap, c2⟩, -⟩ := hpCells H
  have hat := hat_any _ b 0 hp F h _ (H.still hca) (hca.cell c2) hi
  rw [hs, show objPtr (.slice a hp.slots.length cap) none = none by unfold objPtr; split <;> simp_all] at hat
  have HAT := Lib.hid hat
  have HCA := Lib.hid hca
  clear kb hca c2 hi hs H hat
  go_enter Tryd.func14, Tryd.ntmps14
  go_upto_region 1 with fail
  generalize w.alloc (.cells #[.int .i64 0, .int .i64 0, .string ⟨#[]⟩, .int .i64 0] 38) = w1 at *
  generalize hb6 : w.heap.size = b6 at *
  have HB6 := Lib.hid hb6
  clear hb6
  go_upto_region 2 with (go_at_call 24; refine HAT.out.mono ?_; rintro e wa ⟨rfl, hca⟩)
  have HC1 := Lib.hid (HCA.out.trans' hca)
  have HK5 := Lib.hid (hca.keep HKB.out (fun x => x))
  clear hca HAT HKB HCA
  obtain ⟨z0, q0, z1, q1, z2, q2, z3, q3, hbf, hcs⟩ := store4 HK5.out (.int .i64 0) (.int .i64 0) (.string ⟨#[]⟩) (.int .i64 0)
  go_wp2_with fail
  generalize ((((wa.setCell ⟨b6, 0, none⟩ (.int .i64 0)).setCell ⟨b6, 1, none⟩ (.int .i64 0)).setCell ⟨b6, 2, none⟩ (.string ⟨#[]⟩)).setCell ⟨b6, 3, none⟩ (.int .i64 0)) = wz at *
  refine bodyPost_ret (results_cell_row_tmp rfl _ _ b6 #[.int .i64 0, .int .i64 0, .string ⟨#[]⟩, .int .i64 0] (by rfl) (run_loadVar_row _ b6 38 38 _ _ _ hbf Tryd.underlying38 rfl (by kernel_rfl))) rfl ?_
  exact ⟨rfl, HC1.out.trans hcs (fun _ _ x => x) (fun k hk e => by have := HB6.out; omega)⟩
end Go.Proofs.YthiiehanlconeaaDoor
namespace Go.Proofs.YthiiehanlconeaaDoor
open Go.RowKit
set_option linter.unusedVariables false
set_option linter.unusedSimpArgs false

theorem addsK_all {hp : Hp} {Lv : List Nat} (hg : KOk hp Lv) (hf : hp.slots.length ≤ 100000) : ∀ k, k ≤ Lv.length → addsK hp [] ((Lv.take k).map fun i => handleM hp.base hp.stride (i : Nat)) = Lv.take k
  | 0, _ => rfl
  | k + 1, hk => by
    have hlt : k < Lv.length := hk
    have ih := addsK_all hg hf k (by omega)
    have hi := hg.good.lt _ (List.getElem_mem hlt)
    have hso := slotOf_handle hi (hg.used _ (List.getElem_mem hlt)) hf
    rw [List.take_succ_eq_append_getElem hlt, List.map_append]
    show addsK hp [] (_ ++ [handleM hp.base hp.stride (Lv[k] : Nat)]) = _
    rw [addsK_snoc, ih]
    unfold addK
    rw [hso]
    show addN (Lv.take k) Lv[k] = _
    unfold addN
    rw [if_neg]
    intro hm
    obtain ⟨j, hj, e⟩ := List.mem_iff_getElem.1 hm
    rw [List.getElem_take] at e
    rw [List.length_take] at hj
    have := (List.getElem_inj hg.good.nd).1 e
    omega
theorem mkList {w : World} {b : Nat} {m : Mk} {F : List Nat} (H : Here mkR w b 0 m F) : ∃ a cap, w.cell? ⟨b, 2, none⟩ = some (.slice a m.list.length cap) ∧ RowAt w 3 1 (.slice a m.list.length cap) m.list.length (intC m.list) := by
  obtain ⟨cs, ⟨v1, v2, F1, F2, rfl, h1, h2, -⟩, hc⟩ := H.cell
  obtain ⟨v', e, hr, -⟩ := row_flat.1 h2
  obtain rfl : v2 = v' := by simpa using e
  rw [flatMap_one] at hr
  have hr' : RowAt w 3 1 v2 m.list.length (intC m.list) := hr
  obtain ⟨a, cap, rfl, -⟩ := hr'.slice
  have c2 := hc 2 _ rfl
  rw [Nat.zero_add] at c2
  exact ⟨a, cap, c2, hr'⟩
set_option maxHeartbeats 12800000 in
set_option maxRecDepth 100000 in
theorem sweep_any (w : World) (bh : Nat) (hp : Hp) (Fh : List Nat) (Lv : List Nat) (vl : Value) (HH : Here hpR w bh 0 hp Fh) (hok : HpOk hp) (hg : KOk hp Lv) (hr : RowAt w 3 1 vl Lv.length (intC (Lv.map fun i => handleM hp.base hp.stride (i : Nat))))
    (hsl : hp.slots.length ≤ 10000) (hfree : hp.free.length ≤ 10000) (hlive : hp.live = (hp.slots.length : Int)) (hpos : 0 < hp.slots.length) :
    Calls Tryd.prog 12 #[.pointer (some ⟨bh, 0, none⟩), vl] w fun e w' => e = .returned (.int .i64 (cntN hp Lv hp.slots.length : Int)) ∧ Post hpR w bh 0 (sweepM hp Lv) Fh w' := by
  obtain ⟨av, cv, rfl, -⟩ := hr.slice
  have hlv := good_len _ _ hg.good
  have HHH := Lib.hid HH
  have HOK := Lib.hid hok
  have HG := Lib.hid hg
  have HR := Lib.hid hr
  have HSL := Lib.hid hsl
  have HFR := Lib.hid hfree
  have HLI := Lib.hid hlive
  have HPO := Lib.hid hpos
  have HLV := Lib.hid hlv
  have HMK := Lib.hid (marked_any w bh hp Fh HH (by omega))
  have lvl : (Lv.length : Int) ≤ 10000 := by omega
  have sll : (hp.slots.length : Int) ≤ 10000 := by omega
  clear HH hok hg hr hsl hfree hlive hpos hlv
  go_enter Tryd.func12, Tryd.ntmps12
  go_upto_region 2 with (go_at_call 21; refine HMK.out.mono ?_; rintro e w1 ⟨bm, rfl, HMI⟩)
  obtain ⟨F0, ho0⟩ := HMI.own
  have HO0 := Lib.hid ho0
  clear HMI HMK ho0
  go_wp2_with fail
  go_loopw [7, 19] (fun _ u19 wr => ∃ (k : Nat) (F : List Nat), k ≤ Lv.length ∧ u19 = .int .i64 k ∧ Hid (Own mkR w wr bm 0 (mkOf bh hp (Lv.take k)) F) ∧ Hid (KOk hp (Lv.take k))) (fun _ u19 _ => Lv.length - (intOf u19).toNat)
  case atStart => exact ⟨0, F0, by omega, rfl, HO0, Lib.hid (KOk.nil _)⟩
  case round =>
    clear HO0
    obtain ⟨k, F, hk, rfl, HO, HKO⟩ := hrel
    by_cases hlt : k < Lv.length
    · have h0 : (0 : Int) ≤ (k : Int) := by omega
      have h1 : (k : Int) < (Lv.length : Int) := by omega
      have hr2 := HR.out.chg HO.out.chg (fun _ _ x => x)
      obtain ⟨gr, oR, cR, hv, -, -⟩ := hr2.addr (by omega)
      cases hv
      have c0 := hr2.cellAt k (.int .i64 (handleM hp.base hp.stride (Lv[k] : Nat))) (by unfold intC; rw [List.getElem?_map, List.getElem?_map, List.getElem?_eq_getElem hlt]; rfl)
      have w64 : IntKind.i64.wrap ((k : Int) + 1) = ((k + 1 : Nat) : Int) := IntWalk.i64_in _ (by omega)
      have hi := HG.out.good.lt _ (List.getElem_mem hlt)
      have hin := handle_InI hp.base hp.stride (i := Lv[k]) (by have := HSL.out; omega)
      have hAD := madd_any w wr bm bh hp Fh _ (handleM hp.base hp.stride (Lv[k] : Nat)) HHH.out F HO.out HKO.out hin (by have := HSL.out; omega)
      have hT : addK hp (Lv.take k) (handleM hp.base hp.stride (Lv[k] : Nat)) = Lv.take (k + 1) := by
        have q0 := addsK_all HG.out (by have := HSL.out; omega) k hk
        have q1 := addsK_all HG.out (by have := HSL.out; omega) (k + 1) hlt
        rw [List.take_succ_eq_append_getElem hlt, List.map_append] at q1
        rw [List.take_succ_eq_append_getElem hlt, ← q1]
        show _ = addsK hp [] (_ ++ [handleM hp.base hp.stride (Lv[k] : Nat)])
        rw [addsK_snoc, q0]
      rw [hT] at hAD
      have HAD := Lib.hid hAD
      clear hk hr2 hi hin hAD hT
      generalize handleM hp.base hp.stride (Lv[k] : Nat) = z at *
      have HLT := Lib.hid hlt
      have HNX := Lib.hid (show k + 1 ≤ Lv.length from hlt)
      clear hlt
      go_wp2_with (first | (go_at_call 22; refine HAD.out.mono ?_; rintro e wa ⟨rfl, F2, ho2, hk2, -, -⟩))
      go_roundw
      case rel => exact ⟨k + 1, F2, HNX.out, rfl, Lib.hid ho2, Lib.hid hk2⟩
      case measure => have := HLT.out; simp [intOf, w64]; omega
    · have hk2 : k = Lv.length := by omega
      subst hk2
      rename World => W1
      rw [List.take_length] at HO
      clear hlt hk HKO
      have HM := Lib.hid HO.out.here
      have HCW := Lib.hid HO.out.chg
      have H1 := Lib.hid (HHH.out.still HO.out.chg)
      have hapart : ∀ x ∈ bm :: F, ¬ (x = bh ∨ x ∈ Fh) := fun x hx h => by
        have h1 : w.heap.size ≤ x := (List.mem_cons.1 hx).elim (fun e => e ▸ HO.out.lo) (fun e => HO.out.los x e)
        have h2 := HHH.out.lt
        rcases h with rfl | h
        · omega
        · have := h2.2 x h; omega
      have HAP := Lib.hid hapart
      have hms : (mkOf bh hp Lv).set.length = hp.slots.length := mkOf_setlen bh hp Lv
      obtain ⟨gs, os, cs, m1, hset⟩ := mkSet HM.out (by rw [hms]; exact HPO.out)
      rw [hms] at m1
      have HSET : Hid (∀ i, i < hp.slots.length → W1.cell? ⟨gs, os + i, none⟩ = some (.bool (decide (i ∈ Lv)))) := Lib.hid (fun i hi => by
        have q := (hset i (by rw [hms]; exact hi)).1
        rw [mkOf_set] at q
        exact q)
      have HGS : Hid (gs ∈ F) := Lib.hid (by
        have q := HM.out.ownIn mkR_set (by show 0 < 3; decide) (v := .slice (some ⟨gs, os, none⟩) hp.slots.length cs) (by exact m1) (j := gs) rfl
        exact q)
      have HM1 := Lib.hid m1
      clear hapart hms hset HO
      go_wp2_with fail
      clear m1
      generalize hN : hp.slots.length = N at *
      have HN := Lib.hid hN
      clear hN
      go_loopw [8, 9, 32] (fun u8 _ u32 wr => ∃ (k : Nat), k ≤ N ∧ u32 = .int .i64 k ∧ u8 = .int .i64 (cntN hp Lv k : Int) ∧ Hid (Post hpR W1 bh 0 (dropN hp Lv k) Fh wr)) (fun _ _ u32 _ => N - (intOf u32).toNat)
      case atStart => exact ⟨0, by omega, rfl, rfl, Lib.hid ⟨Fh, H1.out, Step.refl _ _ _ _ _⟩⟩
      case round =>
        obtain ⟨k, hk, rfl, rfl, HP⟩ := hrel
        obtain ⟨Fi, Hi, Si⟩ := HP.out
        have HI := Lib.hid Hi
        have HSI := Lib.hid Si
        have dok := dropN_ok hp Lv k (by rw [HN.out]; exact hk)
        by_cases hlt : k < N
        · have h0 : (0 : Int) ≤ (k : Int) := by omega
          have h1 : (k : Int) < (N : Int) := by omega
          have w64 : IntKind.i64.wrap ((k : Int) + 1) = ((k + 1 : Nat) : Int) := IntWalk.i64_in _ (by omega)
          have hDl : (dropN hp Lv k).slots.length = N := by rw [dok.len, HN.out]
          have hkD : k < (dropN hp Lv k).slots.length := by rw [hDl]; exact hlt
          obtain ⟨e0, e1, ⟨a, ca, c2⟩, -⟩ := hpCells Hi
          obtain ⟨g, off, rfl, G, -, cu, -⟩ := hpSlot Hi c2 hkD
          rw [hDl] at c2
          rw [Nat.zero_add] at e1 c2
          have hsm := dok.same k (.inl (Nat.le_refl _))
          have hus : (dropN hp Lv k).slots[k].used = (hp.slots.getD k noSlt).used := by rw [← hsm, getD_get hkD]
          rw [hus] at cu
          have mk1 := Si.chg.cellS HM1.out (HAP.out bm (List.mem_cons_self ..))
          have mks := Si.chg.cellS (HSET.out k (by omega)) (HAP.out gs (List.mem_cons_of_mem _ HGS.out))
          have hsu := dropN_succ hp Lv k
          unfold dropIf at hsu
          rw [hsm] at hsu
          have hcu := cntN_succ hp Lv k
          have HLT := Lib.hid hlt
          have HNX := Lib.hid (show k + 1 ≤ N from hlt)
          have HCL : Hid (cntN hp Lv k ≤ k) := Lib.hid (cntN_le hp Lv k)
          clear hk Hi Si
          by_cases hu : (hp.slots.getD k noSlt).used = true ∧ k ∉ Lv
          · rw [if_pos hu] at hsu hcu
            rw [hu.1] at cu
            rw [decide_eq_false hu.2] at mks
            have HSO : Hid (slotOf (dropN hp Lv k) (handleM (dropN hp Lv k).base (dropN hp Lv k).stride (k : Nat)) = some k) := Lib.hid (slotOf_handle hkD (by rw [hsm]; exact hu.1) (by rw [hDl]; have := HSL.out; omega))
            have HIN := Lib.hid (handle_InI (dropN hp Lv k).base (dropN hp Lv k).stride (i := k) (by omega))
            have HFREE : Hid ((dropN hp Lv k).free.length ≤ 100000) := Lib.hid (by rw [dok.free]; have := HFR.out; have := HCL.out; omega)
            have HLIVE : Hid (0 ≤ (dropN hp Lv k).live ∧ (dropN hp Lv k).live ≤ 1000000) := Lib.hid (by rw [dok.live, HLI.out]; have := HCL.out; omega)
            have hhn := fun W => handle_any (dropN hp Lv k).base (dropN hp Lv k).stride (k : Int) W (by omega)
            have HHN := Lib.hid hhn
            have HSU := Lib.hid hsu
            have HCU := Lib.hid hcu
            have wc64 : IntKind.i64.wrap ((cntN hp Lv k : Int) + 1) = ((cntN hp Lv k + 1 : Nat) : Int) := IntWalk.i64_in _ (by have := HCL.out; omega)
            clear hu hsu hcu hhn dok hsm hus hDl hkD hlt
            generalize dropN hp Lv k = D at *
            have HS0 := Lib.hid (And.intro e0 e1)
            go_upto_region 12 with fail
            clear e0 e1 c2 cu mk1 mks
            refine wp_region_held_split 10 (fun w' => w'.cell? ⟨bh, 0, none⟩ = some (.int .i64 D.base) ∧ w'.cell? ⟨bh, 1, none⟩ = some (.int .i64 D.stride)) (by kernel_rfl) (by kernel_rfl) ?_ (fun hHeld => ?_)
            · (first | exact HS0.out | exact HKS.out _ (Chg.refl _ _) | exact HKS.out _ HCD.out)
            simp only [List.take_succ_cons, List.take_zero]
            have HKS : Hid (∀ W, Chg (fun _ => False) wr.drew W → W.cell? ⟨bh, 0, none⟩ = some (.int .i64 D.base) ∧ W.cell? ⟨bh, 1, none⟩ = some (.int .i64 D.stride)) := Lib.hid (fun W hc => ⟨hc.cell HS0.out.1, hc.cell HS0.out.2⟩)
            have HWD : Hid (Chg (fun _ => False) wr wr.drew) := Lib.hid (Chg.refl _ wr).drewR
            generalize wr.drew = wD at *
            refine wpAnyH_take (i := 0) (v := ?_) rfl (by kernel_rfl) (by kernel_rfl) (by kernel_rfl) (fun _ _ _ h => h) (Or.inl ⟨by rfl, ?_⟩) (by assumption) ?_
            rotate_left
            · (intro wq hSw; (try dsimp only at hSw); go_simp; (try with_reducible rfl))
            simp only [Act.put, List.getElem_toArray, List.getElem_cons_zero, List.getElem_cons_succ, List.setIfInBounds_toArray, List.set_cons_zero, List.set_cons_succ]
            refine wpAnyH_take (i := 1) (v := ?_) rfl (by kernel_rfl) (by kernel_rfl) (by kernel_rfl) (fun _ _ _ h => h) (Or.inl ⟨by rfl, ?_⟩) (by assumption) ?_
            rotate_left
            · (intro wq hSw; (try dsimp only at hSw); go_simp; (try with_reducible rfl))
            simp only [Act.put, List.getElem_toArray, List.getElem_cons_zero, List.getElem_cons_succ, List.setIfInBounds_toArray, List.set_cons_zero, List.set_cons_succ]
            refine wpAnyH_take (i := 2) (v := ?_) rfl (by kernel_rfl) (by kernel_rfl) (by kernel_rfl) (fun _ _ _ h => h) (Or.inl ⟨by rfl, ?_⟩) (by assumption) ?_
            rotate_left
            · (intro wq hSw; (try dsimp only at hSw); go_simp; (try with_reducible rfl))
            simp only [Act.put, List.getElem_toArray, List.getElem_cons_zero, List.getElem_cons_succ, List.setIfInBounds_toArray, List.set_cons_zero, List.set_cons_succ]
            refine wpAnyH_take (i := 3) (v := ?_) rfl (by kernel_rfl) (by kernel_rfl) (by kernel_rfl) (fun _ _ _ h => h) (Or.inl ⟨by rfl, ?_⟩) (by assumption) ?_
            rotate_left
            · (intro wq hSw; (try dsimp only at hSw); go_simp; (try with_reducible rfl))
            simp only [Act.put, List.getElem_toArray, List.getElem_cons_zero, List.getElem_cons_succ, List.setIfInBounds_toArray, List.set_cons_zero, List.set_cons_succ]
            refine wpAnyH_take (i := 4) (v := ?_) rfl (by kernel_rfl) (by kernel_rfl) (by kernel_rfl) (fun _ _ _ h => h) (Or.inl ⟨by rfl, ?_⟩) (by assumption) ?_
            rotate_left
            · (intro wq hSw; (try dsimp only at hSw); go_simp; (try with_reducible rfl))
            simp only [Act.put, List.getElem_toArray, List.getElem_cons_zero, List.getElem_cons_succ, List.setIfInBounds_toArray, List.set_cons_zero, List.set_cons_succ]
            refine wpAnyH_take (i := 5) (v := ?_) rfl (by kernel_rfl) (by kernel_rfl) (by kernel_rfl) (fun _ _ _ h => h) (Or.inl ⟨by rfl, ?_⟩) (by assumption) ?_
            rotate_left
            · (intro wq hSw; (try dsimp only at hSw); go_simp; (try with_reducible rfl))
            simp only [Act.put, List.getElem_toArray, List.getElem_cons_zero, List.getElem_cons_succ, List.setIfInBounds_toArray, List.set_cons_zero, List.set_cons_succ]
            refine wpAnyH_take (i := 6) (v := ?_) rfl (by kernel_rfl) (by kernel_rfl) (by kernel_rfl) (fun _ _ _ h => h) (Or.inl ⟨by rfl, ?_⟩) (by assumption) ?_
            rotate_left
            · (intro wq hSw; (try dsimp only at hSw); go_simp; (try with_reducible rfl))
            simp only [Act.put, List.getElem_toArray, List.getElem_cons_zero, List.getElem_cons_succ, List.setIfInBounds_toArray, List.set_cons_zero, List.set_cons_succ]
            refine wpAnyH_take (i := 7) (v := ?_) rfl (by kernel_rfl) (by kernel_rfl) (by kernel_rfl) (fun _ _ _ h => h) (Or.inl ⟨by rfl, ?_⟩) (by assumption) ?_
            rotate_left
            · (intro wq hSw; (try dsimp only at hSw); go_simp; (try with_reducible rfl))
            simp only [Act.put, List.getElem_toArray, List.getElem_cons_zero, List.getElem_cons_succ, List.setIfInBounds_toArray, List.set_cons_zero, List.set_cons_succ]
            refine wpAnyH_take (i := 8) (v := ?_) rfl (by kernel_rfl) (by kernel_rfl) (by kernel_rfl) (fun _ _ _ h => h) (Or.inl ⟨by rfl, ?_⟩) (by assumption) ?_
            rotate_left
            · (intro wq hSw; (try dsimp only at hSw); go_simp; (try with_reducible rfl))
            simp only [Act.put, List.getElem_toArray, List.getElem_cons_zero, List.getElem_cons_succ, List.setIfInBounds_toArray, List.set_cons_zero, List.set_cons_succ]
            refine wpAnyH_ready (rs := [9]) (by kernel_rfl) (by simp) ?_
            refine AllReadyH.cons (by simp only [List.getElem?_toArray, List.getElem?_cons_succ, List.getElem?_cons_zero]; rfl) (fun K hK => ?_) AllReadyH.nil
            (go_simp; go_at_call 30; refine (HHN.out _).mono ?_; rintro _ wd ⟨rfl, hcd⟩; have HCD := Lib.hid hcd; clear hcd; go_simp)
            refine hK.out _ _ ?_ (fun hHeld => ?_)
            · (first | exact HS0.out | exact HKS.out _ (Chg.refl _ _) | exact HKS.out _ HCD.out)
            clear hK K
            (try simp only [Act.put, List.getElem_toArray, List.getElem_cons_zero, List.getElem_cons_succ, List.setIfInBounds_toArray, List.set_cons_zero, List.set_cons_succ])
            refine wpAnyH_done (by kernel_rfl) ?_ _
            change wpList _ _ _ _ _ _
            simp only [List.drop_succ_cons, List.drop_zero]
            have HDR := Lib.hid (drop_any wd bh D Fi (handleM D.base D.stride (k : Nat)) k (HI.out.still (HWD.out.trans' HCD.out)) HSO.out HIN.out HFREE.out HLIVE.out)
            go_upto_region 13 with (go_at_call 29; refine HDR.out.mono ?_; rintro e w5 ⟨rfl, hpd⟩)
            obtain ⟨F3, H3, S3⟩ := hpd
            have HPN := Lib.hid (show Post hpR W1 bh 0 (dropN hp Lv (k + 1)) Fh w5 from by rw [HSU.out]; exact ⟨F3, H3, HSI.out.trans ((Step.ofChg (HWD.out.trans' HCD.out)).trans S3)⟩)
            clear H3 S3 HDR HKS HS0 hHeld
            go_wp2_with fail
            go_roundw
            case rel => exact ⟨k + 1, HNX.out, rfl, by rw [HCU.out, Int.natCast_add]; rfl, HPN⟩
            case measure => have := HLT.out; simp [intOf, w64]; omega
          · rw [if_neg hu] at hsu hcu
            have HPN : Hid (Post hpR W1 bh 0 (dropN hp Lv (k + 1)) Fh wr) := Lib.hid (by rw [hsu]; exact HP.out)
            have HCU := Lib.hid hcu
            clear hsu hcu hkD hDl dok hsm hus hlt
            cases hus2 : (hp.slots.getD k noSlt).used with
            | false =>
              rw [hus2] at cu
              clear hu hus2
              go_wp2_with fail
              go_roundw
              case rel => exact ⟨k + 1, HNX.out, rfl, by rw [HCU.out, Nat.add_zero], HPN⟩
              case measure => have := HLT.out; simp [intOf, w64]; omega
            | true =>
              rw [hus2] at cu
              have hin : k ∈ Lv := by
                by_cases hin : k ∈ Lv
                · exact hin
                · exact absurd ⟨hus2, hin⟩ hu
              rw [decide_eq_true hin] at mks
              clear hu hus2 hin
              go_wp2_with fail
              go_roundw
              case rel => exact ⟨k + 1, HNX.out, rfl, by rw [HCU.out, Nat.add_zero], HPN⟩
              case measure => have := HLT.out; simp [intOf, w64]; omega
        · have hk2 : N = k := by omega
          subst hk2
          obtain ⟨ah, ch, m2, hrl⟩ := mkList HM.out
          have hll : (mkOf bh hp Lv).list = Lv.map fun i => handleM hp.base hp.stride (i : Nat) := rfl
          have hlen : (Lv.map fun i => handleM hp.base hp.stride (i : Nat)).length = Lv.length := List.length_map ..
          rw [hll, hlen] at m2 hrl
          have HRL := Lib.hid hrl
          have HM2 := Lib.hid m2
          have mm2 := Si.chg.cellS m2 (HAP.out bm (List.mem_cons_self ..))
          clear hll hlen m2 hrl hlt hk
          have HDK := Lib.hid dok
          generalize hD : dropN hp Lv N = D at *
          have HD := Lib.hid hD
          clear hD dok Hi Si HI
          go_wp2_with fail
          clear mm2
          go_loopw [11, 12, 13, 14, 73] (fun _ _ _ _ u73 wz => ∃ (k : Nat), k ≤ Lv.length ∧ u73 = .int .i64 k ∧ Hid (Post hpR W1 bh 0 (weakN Lv D (Lv.take k)) Fh wz)) (fun _ _ _ _ u73 _ => Lv.length - (intOf u73).toNat)
          case atStart => exact ⟨0, by omega, rfl, HP⟩
          case round =>
            rename World => wz
            clear HP HSI Fi
            obtain ⟨k, hk, rfl, HP⟩ := hrel
            obtain ⟨Fi, Hi, Si⟩ := HP.out
            by_cases hlt : k < Lv.length
            · have h0 : (0 : Int) ≤ (k : Int) := by omega
              have h1 : (k : Int) < (Lv.length : Int) := by omega
              have w64 : IntKind.i64.wrap ((k : Int) + 1) = ((k + 1 : Nat) : Int) := IntWalk.i64_in _ (by omega)
              have wok := weakN_ok Lv (Lv.take k) D
              have hi := HG.out.good.lt _ (List.getElem_mem hlt)
              have hus := HG.out.used _ (List.getElem_mem hlt)
              have hnt : Lv[k] ∉ Lv.take k := by
                intro hm
                obtain ⟨j, hj, e⟩ := List.mem_iff_getElem.1 hm
                rw [List.getElem_take] at e
                rw [List.length_take] at hj
                have := (List.getElem_inj HG.out.good.nd).1 e
                omega
              have hsame : (weakN Lv D (Lv.take k)).slots.getD Lv[k] noSlt = hp.slots.getD Lv[k] noSlt := by rw [wok.same _ hnt, HDK.out.same _ (.inr (List.getElem_mem hlt))]
              have hcl : (weakN Lv D (Lv.take k)).slots.length = hp.slots.length := by rw [wok.len, HDK.out.len]
              have hic : Lv[k] < (weakN Lv D (Lv.take k)).slots.length := by rw [hcl]; exact hi
              have hWT := weakN_take (h := D) (Lv := Lv) hlt
              have hmk : mkOf bh (weakN Lv D (Lv.take k)) Lv = mkOf bh hp Lv := mkOf_eq (wok.base.trans HDK.out.base) (wok.stride.trans HDK.out.stride) hcl bh Lv
              have hHM : Here mkR wz bm 0 (mkOf bh (weakN Lv D (Lv.take k)) Lv) F := by
                rw [hmk]
                exact HM.out.chg Si.chg (HAP.out bm (List.mem_cons_self ..)) (fun x hx => HAP.out x (List.mem_cons_of_mem _ hx))
              obtain ⟨g9, o9, c9, hv, -, -⟩ := HRL.out.addr (by omega)
              cases hv
              have hg9 : g9 ∈ F := by
                have q := HM.out.ownIn mkR_list (by show 0 < 3; decide) HM2.out (j := g9) rfl
                exact q
              have cz := Si.chg.cellS (HRL.out.cellAt k (.int .i64 (handleM hp.base hp.stride (Lv[k] : Nat))) (by unfold intC; rw [List.getElem?_map, List.getElem?_map, List.getElem?_eq_getElem hlt]; rfl)) (HAP.out g9 (List.mem_cons_of_mem _ hg9))
              have hin := handle_InI hp.base hp.stride (i := Lv[k]) (by have := HSL.out; have := HN.out; omega)
              have hso : slotOf (weakN Lv D (Lv.take k)) (handleM hp.base hp.stride (Lv[k] : Nat)) = some Lv[k] := by
                have q := slotOf_handle hic (by rw [hsame]; exact hus) (by rw [hcl]; have := HSL.out; have := HN.out; omega)
                rwa [wok.base, wok.stride, HDK.out.base, HDK.out.stride] at q
              have hobj : (weakN Lv D (Lv.take k)).slots[Lv[k]].obj = hp.slots[Lv[k]].obj := by rw [← getD_get (d := noSlt) hic, hsame, getD_get hi]
              have HOO := Lib.hid (HOK.out.obj _ hi)
              have HOI := Lib.hid (HOK.out.data _ hi)
              have hwd : weakD Lv (weakN Lv D (Lv.take k)) Lv[k] = if hp.slots[Lv[k]].obj.kind = 5 then putO (weakN Lv D (Lv.take k)) Lv[k] { hp.slots[Lv[k]].obj with data := restM (hasK (weakN Lv D (Lv.take k)) Lv) hp.slots[Lv[k]].obj.data } else weakN Lv D (Lv.take k) := by
                unfold weakD; rw [hsame, getD_get hi]
              clear hk hnt hsame hcl hmk hg9 hus wok
              generalize hp.slots[Lv[k]].obj = x at *
              generalize handleM hp.base hp.stride (Lv[k] : Nat) = z at *
              clear hi
              generalize Lv[k] = i at *
              have HLT := Lib.hid hlt
              have HNX := Lib.hid (show k + 1 ≤ Lv.length from hlt)
              have HWT := Lib.hid hWT
              clear hWT hlt
              generalize weakN Lv D (Lv.take k) = hc at *
              obtain ⟨gh, oh, ca, c2, G, HOBJ, -, hput⟩ := hpPut Hi hic
              rw [hobj] at HOBJ
              have hAT := hat_any wz bh 0 hc Fi z _ Hi (by rw [Nat.zero_add]; exact c2) hin
              rw [hso] at hAT
              rw [show objPtr (.slice (some ⟨gh, oh, none⟩) hc.slots.length ca) (some i) = some ⟨gh, oh + i * 11 + 1, none⟩ from rfl] at hAT
              have HAT := Lib.hid hAT
              obtain ⟨vp, ve, vd, vs, HOC⟩ := objOpen HOBJ
              obtain ⟨ad, cd, rfl, -⟩ := HOC.rd.slice
              have HOBH := Lib.hid HOBJ
              have HOCH := Lib.hid HOC
              have HPUT := Lib.hid hput
              have HI := Lib.hid Hi
              have HSI := Lib.hid Si
              have HMK := Lib.hid hHM
              have HWD := Lib.hid hwd
              clear hAT hso hobj hin HOBJ HOC hput Hi Si hHM hwd c2 hic
              go_upto_region 19 with (go_at_call 24; refine HAT.out.mono ?_; rintro e wa ⟨rfl, hca⟩)
              have HCA := Lib.hid hca
              have k0 := hca.cell HOCH.out.c0
              clear hca cz HAT
              by_cases hk5 : x.kind = 5
              · have hwd := HWD.out
                rw [if_pos hk5] at hwd
                have HWP := Lib.hid hwd
                rw [hk5] at k0
                have HDL := Lib.hid HOO.out.data
                have hle2 : (x.data.length : Int) ≤ 1000 := by have := HDL.out; omega
                clear hk5 hwd HWD
                go_wp2_with fail
                clear k0
                go_loopw [13, 14] (fun u13 u14 wy => ∃ (q j : Nat) (a : Option Addr) (nn c : Nat), j = 2 * q ∧ q ≤ x.data.length / 2 ∧ u14 = .int .i64 j ∧ u13 = .slice a nn c ∧ Hid (VOut wa wy (.slice a nn c) (((pairsM x.data).take q).flatMap (fun p => if p.1.kind = 5 ∧ hasK hc Lv p.1.ref = true then [p.1, p.2] else [])))) (fun _ u14 _ => x.data.length - (intOf u14).toNat)
                case atStart => exact ⟨0, 0, none, 0, 0, rfl, by omega, rfl, rfl, Lib.hid (VOut.nil wa)⟩
                case round =>
                  rename World => wy
                  obtain ⟨q, j, a, nn, c, hj, hq, rfl, rfl, HV⟩ := hrel
                  have hzy := HCA.out.trans' HV.out.chg
                  have cd4 := hzy.cell HOCH.out.c4
                  have wj1 : IntKind.i64.wrap ((j : Int) + 1) = ((j + 1 : Nat) : Int) := IntWalk.i64_in _ (by have := HDL.out; omega)
                  have wj2 : IntKind.i64.wrap ((j : Int) + 2) = ((j + 2 : Nat) : Int) := IntWalk.i64_in _ (by have := HDL.out; omega)
                  by_cases hlt2 : q < x.data.length / 2
                  · have hr := HOCH.out.rd.chg hzy (fun _ _ x => x)
                    obtain ⟨gd, od, cap', hv, -, -⟩ := hr.addr (by omega)
                    cases hv
                    obtain ⟨j1, hj1⟩ : ∃ j1, j1 = j + 1 := ⟨_, rfl⟩
                    have hjl : j < x.data.length := by omega
                    have hjl1 : j1 < x.data.length := by omega
                    have hrt := rest_take (hs := hasK hc Lv) hlt2
                    have g0 : x.data.getD (2 * q) noVal = x.data[j] := by rw [← hj, List.getD_eq_getElem?_getD, List.getElem?_eq_getElem hjl]; rfl
                    have g1 : x.data.getD (2 * q + 1) noVal = x.data[j1] := by rw [← hj, ← hj1, List.getD_eq_getElem?_getD, List.getElem?_eq_getElem hjl1]; rfl
                    rw [g0, g1] at hrt
                    have HR1 := Lib.hid (HOI.out _ (List.getElem_mem hjl))
                    have hcell : ∀ jj (hjj : jj < x.data.length) t u, x.data[jj].cells[t]? = some u → t < 4 → wy.cell? ⟨gd, od + jj * 4 + t, none⟩ = some u := fun jj hjj t u hu ht => by
                      rw [Nat.add_assoc]
                      exact hr.cellAt (jj * 4 + t) u (by rw [flat_get _ 4 Val.len x.data jj t hjj ht]; exact hu)
                    have a0 := hcell j hjl 0 _ rfl (by omega)
                    have a1 := hcell j hjl 1 _ rfl (by omega)
                    have a2 := hcell j hjl 2 _ rfl (by omega)
                    have a3 := hcell j hjl 3 _ rfl (by omega)
                    have b0 := hcell j1 hjl1 0 _ rfl (by omega)
                    have b1 := hcell j1 hjl1 1 _ rfl (by omega)
                    have b2 := hcell j1 hjl1 2 _ rfl (by omega)
                    have b3 := hcell j1 hjl1 3 _ rfl (by omega)
                    rw [Nat.add_zero] at a0 b0
                    rw [← hj1] at wj1
                    have i0 : (0 : Int) ≤ (j : Int) := by omega
                    have i1 : (j : Int) < (x.data.length : Int) := by omega
                    have i2 : (0 : Int) ≤ (j1 : Int) := by omega
                    have i3 : (j1 : Int) < (x.data.length : Int) := by omega
                    have HJ := Lib.hid hj
                    have HQ := Lib.hid hlt2
                    have HRT := Lib.hid hrt
                    have HRL2 : Hid ((((pairsM x.data).take q).flatMap (fun p => if p.1.kind = 5 ∧ hasK hc Lv p.1.ref = true then [p.1, p.2] else [])).length ≤ 1000) := Lib.hid (by
                      have h := rest_len (hs := hasK hc Lv) ((pairsM x.data).take q)
                      rw [List.length_take] at h
                      have := HDL.out; omega)
                    have HJL := Lib.hid hjl1
                    have HJ1 := Lib.hid hj1
                    clear g0 g1 hcell hr hq hj hrt
                    generalize hRQ : ((pairsM x.data).take q).flatMap (fun p => if p.1.kind = 5 ∧ hasK hc Lv p.1.ref = true then [p.1, p.2] else []) = RQ at *
                    clear hRQ
                    generalize x.data[j] = vk at *
                    generalize x.data[j1] = vv at *
                    clear hjl hjl1 hlt2 hj1
                    cases h5 : vk.kind == 5 with
                    | false =>
                      have HRN : Hid (((pairsM x.data).take (q + 1)).flatMap (fun p => if p.1.kind = 5 ∧ hasK hc Lv p.1.ref = true then [p.1, p.2] else []) = RQ) := Lib.hid (by
                        rw [HRT.out, if_neg (fun e => by rw [e.1] at h5; simp at h5), List.append_nil])
                      go_wp2_with fail
                      go_roundw
                      case rel => exact ⟨q + 1, j + 2, a, nn, c, by have := HJ.out; omega, by have := HQ.out; omega, rfl, rfl, by rw [HRN.out]; exact HV⟩
                      case measure => have := HJL.out; have := HJ1.out; simp [intOf, wj2]; omega
                    | true =>
                      have hk5 : vk.kind = 5 := by simpa using h5
                      have hhs := has_gen wy bm bh hc Fi Lv F vk.ref (HI.out.still hzy) (HMK.out.still hzy) HR1.out
                      cases hhk : hasK hc Lv vk.ref with
                      | false =>
                        rw [hhk] at hhs
                        have HHS := Lib.hid hhs
                        have HRN : Hid (((pairsM x.data).take (q + 1)).flatMap (fun p => if p.1.kind = 5 ∧ hasK hc Lv p.1.ref = true then [p.1, p.2] else []) = RQ) := Lib.hid (by
                          rw [HRT.out, if_neg (fun e => by rw [hhk] at e; cases e.2), List.append_nil])
                        clear hhs hhk hk5
                        go_wp2_with (go_at_call 31; refine HHS.out.mono ?_; rintro e wh ⟨rfl, hch⟩)
                        go_roundw
                        case rel => exact ⟨q + 1, j + 2, a, nn, c, by have := HJ.out; omega, by have := HQ.out; omega, rfl, rfl, by rw [HRN.out]; exact Lib.hid (HV.out.still hch)⟩
                        case measure => have := HJL.out; have := HJ1.out; simp [intOf, wj2]; omega
                      | true =>
                        rw [hhk] at hhs
                        have HHS := Lib.hid hhs
                        have HRN : Hid (((pairsM x.data).take (q + 1)).flatMap (fun p => if p.1.kind = 5 ∧ hasK hc Lv p.1.ref = true then [p.1, p.2] else []) = RQ ++ [vk, vv]) := Lib.hid (by
                          rw [HRT.out, if_pos ⟨hk5, hhk⟩])
                        have HSA : Hid (wy.cell? ⟨gh, oh + i * 11 + 1 + 4, none⟩ = some (.slice (some ⟨gd, od, none⟩) x.data.length cd) ∧ wy.cell? ⟨gd, od + j * 4, none⟩ = some (.int .i64 vk.kind) ∧ wy.cell? ⟨gd, od + j * 4 + 1, none⟩ = some (.int .i64 vk.int) ∧ wy.cell? ⟨gd, od + j * 4 + 2, none⟩ = some (.string vk.str) ∧ wy.cell? ⟨gd, od + j * 4 + 3, none⟩ = some (.int .i64 vk.ref) ∧ wy.cell? ⟨gd, od + j1 * 4, none⟩ = some (.int .i64 vv.kind) ∧ wy.cell? ⟨gd, od + j1 * 4 + 1, none⟩ = some (.int .i64 vv.int) ∧ wy.cell? ⟨gd, od + j1 * 4 + 2, none⟩ = some (.string vv.str) ∧ wy.cell? ⟨gd, od + j1 * 4 + 3, none⟩ = some (.int .i64 vv.ref)) := Lib.hid ⟨cd4, a0, a1, a2, a3, b0, b1, b2, b3⟩
                        clear hhs hhk hk5
                        go_upto_region 25 with (go_at_call 31; refine HHS.out.mono ?_; rintro e wh ⟨rfl, hch⟩)
                        have HCH := Lib.hid hch
                        have HVH := Lib.hid (HV.out.still hch)
                        have HS0 : Hid (wh.cell? ⟨gh, oh + i * 11 + 1 + 4, none⟩ = some (.slice (some ⟨gd, od, none⟩) x.data.length cd) ∧ wh.cell? ⟨gd, od + j * 4, none⟩ = some (.int .i64 vk.kind) ∧ wh.cell? ⟨gd, od + j * 4 + 1, none⟩ = some (.int .i64 vk.int) ∧ wh.cell? ⟨gd, od + j * 4 + 2, none⟩ = some (.string vk.str) ∧ wh.cell? ⟨gd, od + j * 4 + 3, none⟩ = some (.int .i64 vk.ref) ∧ wh.cell? ⟨gd, od + j1 * 4, none⟩ = some (.int .i64 vv.kind) ∧ wh.cell? ⟨gd, od + j1 * 4 + 1, none⟩ = some (.int .i64 vv.int) ∧ wh.cell? ⟨gd, od + j1 * 4 + 2, none⟩ = some (.string vv.str) ∧ wh.cell? ⟨gd, od + j1 * 4 + 3, none⟩ = some (.int .i64 vv.ref)) := Lib.hid ⟨hch.cell cd4, hch.cell a0, hch.cell a1, hch.cell a2, hch.cell a3, hch.cell b0, hch.cell b1, hch.cell b2, hch.cell b3⟩
                        clear cd4 a0 a1 a2 a3 b0 b1 b2 b3 hch HSA
                        refine wp_region_held_split 17 (fun w' => w'.cell? ⟨gh, oh + i * 11 + 1 + 4, none⟩ = some (.slice (some ⟨gd, od, none⟩) x.data.length cd) ∧ w'.cell? ⟨gd, od + j * 4, none⟩ = some (.int .i64 vk.kind) ∧ w'.cell? ⟨gd, od + j * 4 + 1, none⟩ = some (.int .i64 vk.int) ∧ w'.cell? ⟨gd, od + j * 4 + 2, none⟩ = some (.string vk.str) ∧ w'.cell? ⟨gd, od + j * 4 + 3, none⟩ = some (.int .i64 vk.ref) ∧ w'.cell? ⟨gd, od + j1 * 4, none⟩ = some (.int .i64 vv.kind) ∧ w'.cell? ⟨gd, od + j1 * 4 + 1, none⟩ = some (.int .i64 vv.int) ∧ w'.cell? ⟨gd, od + j1 * 4 + 2, none⟩ = some (.string vv.str) ∧ w'.cell? ⟨gd, od + j1 * 4 + 3, none⟩ = some (.int .i64 vv.ref)) (by kernel_rfl) (by kernel_rfl) ?_ (fun hHeld => ?_)
                        · (first | exact HS0.out | exact HKS.out _ (Chg.refl _ _) | exact HKS.out _ (Chg.alloc _ _ _))
                        simp only [List.take_succ_cons, List.take_zero]
                        have HKS : Hid (∀ W, Chg (fun _ => False) wh.drew W → W.cell? ⟨gh, oh + i * 11 + 1 + 4, none⟩ = some (.slice (some ⟨gd, od, none⟩) x.data.length cd) ∧ W.cell? ⟨gd, od + j * 4, none⟩ = some (.int .i64 vk.kind) ∧ W.cell? ⟨gd, od + j * 4 + 1, none⟩ = some (.int .i64 vk.int) ∧ W.cell? ⟨gd, od + j * 4 + 2, none⟩ = some (.string vk.str) ∧ W.cell? ⟨gd, od + j * 4 + 3, none⟩ = some (.int .i64 vk.ref) ∧ W.cell? ⟨gd, od + j1 * 4, none⟩ = some (.int .i64 vv.kind) ∧ W.cell? ⟨gd, od + j1 * 4 + 1, none⟩ = some (.int .i64 vv.int) ∧ W.cell? ⟨gd, od + j1 * 4 + 2, none⟩ = some (.string vv.str) ∧ W.cell? ⟨gd, od + j1 * 4 + 3, none⟩ = some (.int .i64 vv.ref)) := Lib.hid (fun W hc => ⟨hc.cell HS0.out.1, hc.cell HS0.out.2.1, hc.cell HS0.out.2.2.1, hc.cell HS0.out.2.2.2.1, hc.cell HS0.out.2.2.2.2.1, hc.cell HS0.out.2.2.2.2.2.1, hc.cell HS0.out.2.2.2.2.2.2.1, hc.cell HS0.out.2.2.2.2.2.2.2.1, hc.cell HS0.out.2.2.2.2.2.2.2.2⟩)
                        have HVD := Lib.hid (HVH.out.still (Chg.refl _ wh).drewR)
                        generalize wh.drew = wD at *
                        refine wpAnyH_take (i := 0) (v := ?_) rfl (by kernel_rfl) (by kernel_rfl) (by kernel_rfl) (fun _ _ _ h => h) (Or.inl ⟨by rfl, ?_⟩) (by assumption) ?_
                        rotate_left
                        · (intro wq hSw; (try dsimp only at hSw); go_simp; (try with_reducible rfl))
                        simp only [Act.put, List.getElem_toArray, List.getElem_cons_zero, List.getElem_cons_succ, List.setIfInBounds_toArray, List.set_cons_zero, List.set_cons_succ]
                        refine wpAnyH_take (i := 1) (v := ?_) rfl (by kernel_rfl) (by kernel_rfl) (by kernel_rfl) (fun _ _ _ h => h) (Or.inl ⟨by rfl, ?_⟩) (by assumption) ?_
                        rotate_left
                        · (intro wq hSw; (try dsimp only at hSw); go_simp; (try with_reducible rfl))
                        simp only [Act.put, List.getElem_toArray, List.getElem_cons_zero, List.getElem_cons_succ, List.setIfInBounds_toArray, List.set_cons_zero, List.set_cons_succ]
                        refine wpAnyH_take (i := 2) (v := ?_) rfl (by kernel_rfl) (by kernel_rfl) (by kernel_rfl) (fun _ _ _ h => h) (Or.inl ⟨by rfl, ?_⟩) (by assumption) ?_
                        rotate_left
                        · (intro wq hSw; (try dsimp only at hSw); go_simp; (try with_reducible rfl))
                        simp only [Act.put, List.getElem_toArray, List.getElem_cons_zero, List.getElem_cons_succ, List.setIfInBounds_toArray, List.set_cons_zero, List.set_cons_succ]
                        refine wpAnyH_take (i := 3) (v := ?_) rfl (by kernel_rfl) (by kernel_rfl) (by kernel_rfl) (fun _ _ _ h => h) (Or.inl ⟨by rfl, ?_⟩) (by assumption) ?_
                        rotate_left
                        · (intro wq hSw; (try dsimp only at hSw); go_simp; (try with_reducible rfl))
                        simp only [Act.put, List.getElem_toArray, List.getElem_cons_zero, List.getElem_cons_succ, List.setIfInBounds_toArray, List.set_cons_zero, List.set_cons_succ]
                        refine wpAnyH_take (i := 4) (v := ?_) rfl (by kernel_rfl) (by kernel_rfl) (by kernel_rfl) (fun _ _ _ h => h) (Or.inl ⟨by rfl, ?_⟩) (by assumption) ?_
                        rotate_left
                        · (intro wq hSw; (try dsimp only at hSw); go_simp; (try with_reducible rfl))
                        simp only [Act.put, List.getElem_toArray, List.getElem_cons_zero, List.getElem_cons_succ, List.setIfInBounds_toArray, List.set_cons_zero, List.set_cons_succ]
                        refine wpAnyH_take (i := 5) (v := ?_) rfl (by kernel_rfl) (by kernel_rfl) (by kernel_rfl) (fun _ _ _ h => h) (Or.inl ⟨by rfl, ?_⟩) (by assumption) ?_
                        rotate_left
                        · (intro wq hSw; (try dsimp only at hSw); go_simp; (try with_reducible rfl))
                        simp only [Act.put, List.getElem_toArray, List.getElem_cons_zero, List.getElem_cons_succ, List.setIfInBounds_toArray, List.set_cons_zero, List.set_cons_succ]
                        refine wpAnyH_take (i := 6) (v := ?_) rfl (by kernel_rfl) (by kernel_rfl) (by kernel_rfl) (fun _ _ _ h => h) (Or.inl ⟨by rfl, ?_⟩) (by assumption) ?_
                        rotate_left
                        · (intro wq hSw; (try dsimp only at hSw); go_simp; (try with_reducible rfl))
                        simp only [Act.put, List.getElem_toArray, List.getElem_cons_zero, List.getElem_cons_succ, List.setIfInBounds_toArray, List.set_cons_zero, List.set_cons_succ]
                        refine wpAnyH_take (i := 7) (v := ?_) rfl (by kernel_rfl) (by kernel_rfl) (by kernel_rfl) (fun _ _ _ h => h) (Or.inl ⟨by rfl, ?_⟩) (by assumption) ?_
                        rotate_left
                        · (intro wq hSw; (try dsimp only at hSw); go_simp; (try with_reducible rfl))
                        simp only [Act.put, List.getElem_toArray, List.getElem_cons_zero, List.getElem_cons_succ, List.setIfInBounds_toArray, List.set_cons_zero, List.set_cons_succ]
                        refine wpAnyH_take (i := 8) (v := ?_) rfl (by kernel_rfl) (by kernel_rfl) (by kernel_rfl) (fun _ _ _ h => h) (Or.inl ⟨by rfl, ?_⟩) (by assumption) ?_
                        rotate_left
                        · (intro wq hSw; (try dsimp only at hSw); go_simp; (try with_reducible rfl))
                        simp only [Act.put, List.getElem_toArray, List.getElem_cons_zero, List.getElem_cons_succ, List.setIfInBounds_toArray, List.set_cons_zero, List.set_cons_succ]
                        refine wpAnyH_take (i := 9) (v := ?_) rfl (by kernel_rfl) (by kernel_rfl) (by kernel_rfl) (fun _ _ _ h => h) (Or.inl ⟨by rfl, ?_⟩) (by assumption) ?_
                        rotate_left
                        · (intro wq hSw; (try dsimp only at hSw); go_simp; (try with_reducible rfl))
                        simp only [Act.put, List.getElem_toArray, List.getElem_cons_zero, List.getElem_cons_succ, List.setIfInBounds_toArray, List.set_cons_zero, List.set_cons_succ]
                        refine wpAnyH_take (i := 10) (v := ?_) rfl (by kernel_rfl) (by kernel_rfl) (by kernel_rfl) (fun _ _ _ h => h) (Or.inl ⟨by rfl, ?_⟩) (by assumption) ?_
                        rotate_left
                        · (intro wq hSw; (try dsimp only at hSw); go_simp; (try with_reducible rfl))
                        simp only [Act.put, List.getElem_toArray, List.getElem_cons_zero, List.getElem_cons_succ, List.setIfInBounds_toArray, List.set_cons_zero, List.set_cons_succ]
                        refine wpAnyH_take (i := 11) (v := ?_) rfl (by kernel_rfl) (by kernel_rfl) (by kernel_rfl) (fun _ _ _ h => h) (Or.inl ⟨by rfl, ?_⟩) (by assumption) ?_
                        rotate_left
                        · (intro wq hSw; (try dsimp only at hSw); go_simp; (try with_reducible rfl))
                        simp only [Act.put, List.getElem_toArray, List.getElem_cons_zero, List.getElem_cons_succ, List.setIfInBounds_toArray, List.set_cons_zero, List.set_cons_succ]
                        refine wpAnyH_take (i := 12) (v := ?_) rfl (by kernel_rfl) (by kernel_rfl) (by kernel_rfl) (fun _ _ _ h => h) (Or.inl ⟨by rfl, ?_⟩) (by assumption) ?_
                        rotate_left
                        · (intro wq hSw; (try dsimp only at hSw); go_simp; (try with_reducible rfl))
                        simp only [Act.put, List.getElem_toArray, List.getElem_cons_zero, List.getElem_cons_succ, List.setIfInBounds_toArray, List.set_cons_zero, List.set_cons_succ]
                        refine wpAnyH_take (i := 13) (v := ?_) rfl (by kernel_rfl) (by kernel_rfl) (by kernel_rfl) (fun _ _ _ h => h) (Or.inl ⟨by rfl, ?_⟩) (by assumption) ?_
                        rotate_left
                        · (intro wq hSw; (try dsimp only at hSw); go_simp; (try with_reducible rfl))
                        simp only [Act.put, List.getElem_toArray, List.getElem_cons_zero, List.getElem_cons_succ, List.setIfInBounds_toArray, List.set_cons_zero, List.set_cons_succ]
                        refine wpAnyH_take (i := 14) (v := ?_) rfl (by kernel_rfl) (by kernel_rfl) (by kernel_rfl) (fun _ _ _ h => h) (Or.inl ⟨by rfl, ?_⟩) (by assumption) ?_
                        rotate_left
                        · (intro wq hSw; (try dsimp only at hSw); go_simp; (try with_reducible rfl))
                        simp only [Act.put, List.getElem_toArray, List.getElem_cons_zero, List.getElem_cons_succ, List.setIfInBounds_toArray, List.set_cons_zero, List.set_cons_succ]
                        refine wpAnyH_take (i := 15) (v := ?_) rfl (by kernel_rfl) (by kernel_rfl) (by kernel_rfl) (fun _ _ _ h => h) (Or.inl ⟨by rfl, ?_⟩) (by assumption) ?_
                        rotate_left
                        · (intro wq hSw; (try dsimp only at hSw); go_simp; (try with_reducible rfl))
                        simp only [Act.put, List.getElem_toArray, List.getElem_cons_zero, List.getElem_cons_succ, List.setIfInBounds_toArray, List.set_cons_zero, List.set_cons_succ]
                        refine wpAnyH_ready (rs := [16]) (by kernel_rfl) (by simp) ?_
                        refine AllReadyH.cons (by simp only [List.getElem?_toArray, List.getElem?_cons_succ, List.getElem?_cons_zero]; rfl) (fun K hK => ?_) AllReadyH.nil
                        go_simp
                        refine hK.out _ _ ?_ (fun hHeld => ?_)
                        · (first | exact HS0.out | exact HKS.out _ (Chg.refl _ _) | exact HKS.out _ (Chg.alloc _ _ _))
                        clear hK K
                        (try simp only [Act.put, List.getElem_toArray, List.getElem_cons_zero, List.getElem_cons_succ, List.setIfInBounds_toArray, List.set_cons_zero, List.set_cons_succ])
                        refine wpAnyH_done (by kernel_rfl) ?_ _
                        change wpList _ _ _ _ _ _
                        simp only [List.drop_succ_cons, List.drop_zero]
                        go_wp2_with (at_builtin; refine list_append_rows (by rfl) _ _ _ (by rfl) 38 4 40 Tryd.underlying59 elem_val (by decide) _ RQ.length (RQ.flatMap Val.cells) (by rfl) (HVD.out.row.alloc (.cells #[.int .i64 vk.kind, .int .i64 vk.int, .string vk.str, .int .i64 vk.ref, .int .i64 vv.kind, .int .i64 vv.int, .string vv.str, .int .i64 vv.ref] 38)) _ 2 [.int .i64 vk.kind, .int .i64 vk.int, .string vk.str, .int .i64 vk.ref, .int .i64 vv.kind, .int .i64 vv.int, .string vv.str, .int .i64 vv.ref] (by rfl) (RowAt.lit [.int .i64 vk.kind, .int .i64 vk.int, .string vk.str, .int .i64 vk.ref, .int .i64 vv.kind, .int .i64 vv.int, .string vv.str, .int .i64 vv.ref] rfl (by simp [maxLen])) (by intro u hu; simp at hu; rcases hu with rfl | rfl | rfl | rfl | rfl | rfl | rfl | rfl <;> rfl) (by have := HRL2.out; unfold maxLen; omega) (by have := HRL2.out; omega) ?_; intro a9 n9 c9 w9 hrow9 hchg9 hold9)
                        have HVN : Hid (VOut wa w9 (.slice a9 n9 c9) (RQ ++ [vk, vv])) := Lib.hid ⟨by rw [List.length_append, List.flatMap_append]; exact hrow9, fun k hk => (by
                          rcases hold9 k hk with x | x
                          · exact HVD.out.lo k x
                          · have := HVD.out.chg.size; rw [World.size_alloc] at x; omega), (HVD.out.chg.allocR (.cells #[.int .i64 vk.kind, .int .i64 vk.int, .string vk.str, .int .i64 vk.ref, .int .i64 vv.kind, .int .i64 vv.int, .string vv.str, .int .i64 vv.ref] 38)).trans hchg9 (fun _ _ x => x) (fun k hk x => by have := HVD.out.lo k x; omega)⟩
                        go_roundw
                        case rel => exact ⟨q + 1, j + 2, a9, n9, c9, by have := HJ.out; omega, by have := HQ.out; omega, rfl, rfl, by rw [HRN.out]; exact HVN⟩
                        case measure => have := HJL.out; have := HJ1.out; simp [intOf, wj2]; omega
                  · have hq2 : q = x.data.length / 2 := by omega
                    subst hq2
                    have hjn : ¬ ((j + 1 : Nat) : Int) < (x.data.length : Int) := by omega
                    have HVE : Hid (VOut wa wy (.slice a nn c) (restM (hasK hc Lv) x.data)) := Lib.hid (by have q := HV.out; rw [pairs_all] at q; exact q)
                    have f4 := (HOBH.out.still hzy).frozen (oh + i * 11 + 1 + 4)
                    have P := HOBH.out.setRow objR_data (by show 0 < 10; decide) hzy (ofRow_flat (n := 4) (f := Val.cells) (hf := Val.len) HVE.out.row) (fun k hk => Nat.le_trans HCA.out.size (HVE.out.lo k (mem_ownL.1 hk))) (by cases a <;> simp [ownL, Value.ownBlock])
                    obtain ⟨F3, H3, S3⟩ := HPUT.out _ _ P
                    have HPN : Hid (Post hpR W1 bh 0 (weakN Lv D (Lv.take (k + 1))) Fh (wy.setCell ⟨gh, oh + i * 11 + 1 + 4, none⟩ (.slice a nn c))) := Lib.hid (by rw [HWT.out, HWP.out]; exact ⟨F3, H3, HSI.out.trans S3⟩)
                    clear P H3 S3 hlt2 hq HV hzy hj
                    go_wp2_with fail
                    go_roundw
                    case rel => exact ⟨k + 1, HNX.out, rfl, HPN⟩
                    case measure => have := HLT.out; simp [intOf, w64]; omega
              · have z5 : (x.kind != 5) = true := by simp [hk5]
                have hwd := HWD.out
                rw [if_neg hk5] at hwd
                have HPN : Hid (Post hpR W1 bh 0 (weakN Lv D (Lv.take (k + 1))) Fh wa) := Lib.hid (by rw [HWT.out, hwd]; exact ⟨Fi, HI.out.still HCA.out, HSI.out.trans (Step.ofChg HCA.out)⟩)
                clear hk5 hwd HWD
                go_wp2_with fail
                go_roundw
                case rel => exact ⟨k + 1, HNX.out, rfl, HPN⟩
                case measure => have := HLT.out; simp [intOf, w64]; omega
            · have hk2 : k = Lv.length := by omega
              subst hk2
              have HPE : Hid (Post hpR W1 bh 0 (sweepM hp Lv) Fh wz) := Lib.hid (by
                have q := HP.out
                rw [List.take_length] at q
                unfold sweepM
                rw [HN.out, HD.out]; exact q)
              clear hlt hk
              go_wp2_with fail
              go_ret
              rw [HN.out]
              exact ⟨rfl, Post.pre HCW.out HPE.out⟩
end Go.Proofs.YthiiehanlconeaaDoor
