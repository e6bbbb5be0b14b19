/-
  The laws' fixed example (awake).
  The reference of layer 35: Live, walked.
  The two graphs, plainly: what the joins leave, phase by phase; the same discovery in both. The two graphs, plainly: the whole of both, and the same discovery.
  Discovery, plainly: what is found is closed; found again where only what was not found has gone.
  CollectWeak, plainly: a chain of weak entries; what is found from its map and one of its objects.
  A region that draws its order is cut in two: a head, whose operations come up in any order, and a tail, which waits for the whole head and has one order. (What the head's loads read may be stored into by the tail.)
-/
import Derived.Test.YthiiehanlconeaaDoorPCollectRingsd
import Derived.Test.YthiiehanlconeaaDoorPCollectRingsc
import Derived.Test.YthiiehanlconeaaDoorPCollectRingsb
import Derived.StillTail
import Derived.Deep.RegionHeld3
import Derived.Test.YthiiehanlconeaaDoorPCollectRingsa
namespace Go.Proofs.YthiiehanlconeaaDoor
open Go.RowKit
set_option linter.unusedVariables false
set_option linter.unusedSimpArgs false

/-- Objects that are just made: nothing but a kind and a prototype that is a number of the machine. -/
structure Fresh (s : Slt) : Prop where
  ex : ∃ k p : Int, s = ⟨true, newObj k p⟩ ∧ InI p
theorem Fresh.mk' (k p : Int) (h : InI p) : Fresh ⟨true, newObj k p⟩ := ⟨k, p, rfl, h⟩
theorem refsM_new (k p : Int) : refsM (newObj k p) = nz [p] := by
  unfold refsM refsL newObj framesM nz refsV
  by_cases h : p = 0 <;> simp [h]
theorem fresh_ok {hp : Hp} (hl : hp.slots.length ≤ 100000) (h : ∀ s ∈ hp.slots, Fresh s) : HpOk hp := by
  have key : ∀ s (hs : s < hp.slots.length), ∃ k p : Int, hp.slots[s].obj = newObj k p ∧ InI p := fun s hs => by
    obtain ⟨k, p, e, hi⟩ := (h _ (List.getElem_mem hs)).ex
    exact ⟨k, p, by rw [e], hi⟩
  refine ⟨hl, fun s hs => ?_, fun s hs r hr => ?_, fun s hs v hv => ?_⟩
  · obtain ⟨k, p, e, -⟩ := key s hs
    rw [e]
    exact ⟨by simp [newObj], by simp [newObj], by simp [newObj], by simp [newObj], fun f hf => by simp [newObj] at hf⟩
  · obtain ⟨k, p, e, hi⟩ := key s hs
    rw [e, refsM_new] at hr
    have : r ∈ [p] := (List.mem_filter.1 hr).1
    rw [List.mem_singleton.1 this]; exact hi
  · obtain ⟨k, p, e, -⟩ := key s hs
    rw [e] at hv
    simp [newObj] at hv
theorem handle_InI (a s : Int) {i : Nat} (hi : i ≤ 2147483647) : InI (handleM a s (i : Nat)) := by
  have := handle_in a s (i := i) (by omega)
  unfold InI
  omega
theorem newM_fresh (a s : Int) : ∀ x ∈ (newM a s).slots, Fresh x := by
  intro x hx
  rcases List.mem_cons.1 hx with rfl | hx
  · exact Fresh.mk' 0 0 (by unfold InI; omega)
  · rw [List.eq_of_mem_replicate hx]
    exact Fresh.mk' 0 _ (handle_InI a s (i := 0) (by omega))
def hpA : Hp := addedM (newM 3 4) ⟨true, newObj 0 (handleM 3 4 0)⟩
theorem hpA_ok : HpOk hpA := fresh_ok (by show 13 ≤ 100000; omega) (fun x hx => by
  rcases List.mem_append.1 hx with h | h
  · exact newM_fresh 3 4 x h
  · rw [List.mem_singleton.1 h]
    exact Fresh.mk' 0 _ (handle_InI 3 4 (i := 0) (by omega)))
theorem hpA_live : liveM hpA (fun _ => []) hpA.slots.length hpA.slots.length (addsK hpA [] [handleM 3 4 11]) 0 = [11, 0] := by kernel_rfl

set_option maxHeartbeats 3200000 in
set_option maxRecDepth 100000 in
theorem awake_any (w : World) : Calls Tryd.prog 5 #[] w fun e w' => e = .returned (.bool true) ∧ Chg (fun _ => False) w w' := by
  have HN := Lib.hid (new_any 3 4 w)
  go_enter Tryd.func5, Tryd.ntmps5
  go_upto_region 2 with (go_at_call 6; refine HN.out.mono ?_; rintro e w1 ⟨cs, F, rfl, hown, hnd, hlo, hch⟩; have hown' := hown; obtain ⟨v1, v2, v3, F1, F2, F3, rfl, o1, o2, o3, -⟩ := hown'; obtain ⟨x1, y1, p1⟩ := Rep.opened o1; obtain ⟨n1, m1, rfl, -⟩ := p1.val; obtain ⟨x2, y2, p2⟩ := Rep.opened o2; obtain ⟨n2, m2, rfl, -⟩ := p2.val; obtain ⟨x3, y3, p3⟩ := Rep.opened o3; obtain ⟨n3, m3, rfl, -⟩ := p3.val; clear o1 o2 o3 p1 p2 p3)
  have HO0 : Own hpR w (w1.alloc (.cells _ 31)) w1.heap.size 0 (newM 3 4) F := ⟨Here.made w1 31 _ (newM 3 4) F hown hnd, hch.allocR _, hch.size, hlo⟩
  have HO := Lib.hid HO0
  clear HN hown hnd hlo hch HO0
  generalize w1.alloc (.cells #[.int .i64 (newM 3 4).base, .int .i64 (newM 3 4).stride, .slice n1 (newM 3 4).slots.length m1, .slice n2 (newM 3 4).free.length m2, .int .i64 (newM 3 4).live, .int .i64 (newM 3 4).global, .int .i64 (newM 3 4).texts, .slice n3 (newM 3 4).protos.length m3] 31) = W2 at *
  generalize w1.heap.size = bh at *
  have HMK := Lib.hid (make_any W2 bh (newM 3 4) F 0 HO.out.here rfl rfl (by show 12 < 100000; omega) rfl (by omega))
  go_upto_region 3 with (go_at_call 7; refine HMK.out.mono ?_; rintro e W3 ⟨rfl, hA⟩)
  obtain ⟨F3, HO3⟩ : ∃ F3, Own hpR w W3 bh 0 hpA F3 := hA.post.own HO.out
  obtain ⟨-, -, -, -, -, c5, -, p7, k7, c7⟩ := hpCells HO3.here
  obtain ⟨gp, op, kp, c7', hset⟩ := protoSet HO3.here (by show 0 < 12; omega)
  obtain ⟨q0, -, -⟩ := hset 0 (by show 0 < 12; omega)
  rw [Nat.zero_add] at c5 c7'
  change W3.cell? ⟨bh, 5, none⟩ = some (.int .i64 (handleM 3 4 11)) at c5
  change W3.cell? ⟨bh, 7, none⟩ = some (.slice (some ⟨gp, op, none⟩) 12 kp) at c7'
  rw [Nat.add_zero] at q0
  change W3.cell? ⟨gp, op, none⟩ = some (.int .i64 (handleM 3 4 0)) at q0
  have HC5 := Lib.hid c5
  have HC7 := Lib.hid c7'
  have HQ0 := Lib.hid q0
  have H3 := Lib.hid HO3
  have hch := Chg.alloc (fun _ => False) W3 (.cells #[.int .i64 (handleM 3 4 11)] 3)
  have HLV := Lib.hid (live_any (W3.alloc (.cells #[.int .i64 (handleM 3 4 11)] 3)) bh hpA F3 (.slice (some ⟨W3.heap.size, 0, none⟩) 1 1) .nilFunc [handleM 3 4 11] (fun _ => []) (HO3.here.still hch) hpA_ok (RowAt.lit [.int .i64 (handleM 3 4 11)] rfl (by simp [maxLen])) (by simp) (by intro r hr; rw [List.mem_singleton.1 hr]; exact handle_InI 3 4 (i := 11) (by omega)) (.inl ⟨rfl, rfl⟩))
  rw [hpA_live] at HLV
  clear HMK hA HO c7 c7' q0 hset HO3
  go_upto_region 4 with (go_at_call 10; refine HLV.out.mono ?_; rintro e W5 ⟨v5, rfl, HO5⟩)
  obtain ⟨g5, o5, k5, rfl, l0⟩ := HO5.at (k := 0) (by show 0 < 2; omega)
  obtain ⟨g5', o5', k5', e5, l1⟩ := HO5.at (k := 1) (by show 1 < 2; omega)
  cases e5
  rw [Nat.add_zero] at l0
  change W5.cell? ⟨g5, o5, none⟩ = some (.int .i64 (handleM 3 4 11)) at l0
  change W5.cell? ⟨g5, o5 + 1, none⟩ = some (.int .i64 (handleM 3 4 0)) at l1
  have hc5 := hch.trans' HO5.chg
  have c5 := hc5.cell HC5.out
  have c7 := hc5.cell HC7.out
  have q0 := hc5.cell HQ0.out
  have HCC := Lib.hid (H3.out.chg.trans' hc5)
  have hll : (([11, 0] : List Nat).map fun i : Nat => handleM hpA.base hpA.stride (i : Nat)).length = 2 := rfl
  rw [hll]
  clear HC5 HC7 HQ0 hch HLV HO5 hc5 hll
  go_quiet (fail)
  all_goals (
    go_wp2_with fail
    go_ret
    exact ⟨rfl, HCC.out.drewNR _⟩)
end Go.Proofs.YthiiehanlconeaaDoor
namespace Go.Proofs.YthiiehanlconeaaDoor
open Go.RowKit
set_option linter.unusedVariables false
set_option linter.unusedSimpArgs false

theorem liveR_step {g : Nat → List Nat} {ps : Nat → List (Nat × Nat)} {N f : Nat} {K : List Nat} {p : Nat} : liveR g ps N (f + 1) K p = if (weakP ps (drain g N K p)).length = (drain g N K p).length then weakP ps (drain g N K p) else liveR g ps N f (weakP ps (drain g N K p)) (drain g N K p).length := rfl
theorem pre_get {K K' : List Nat} (h : K <+: K') {i : Nat} (hi : i < K.length) : ∃ hp : i < K'.length, K'[i] = K[i] := by
  obtain ⟨t, rfl⟩ := h
  refine ⟨by rw [List.length_append]; omega, ?_⟩
  rw [List.getElem_append_left hi]
theorem mem_natI (K : List Nat) (i : Nat) : ((i : Int) ∈ natI K) ↔ i ∈ K := by
  unfold natI
  rw [List.mem_map]
  constructor
  · rintro ⟨a, ha, e⟩
    have : a = i := by omega
    subst this; exact ha
  · exact fun h => ⟨i, h, rfl⟩
theorem zip_take {l m : List Nat} {k : Nat} (h : k < l.length) (e : l.length = m.length) : (l.zip m).take (k + 1) = (l.zip m).take k ++ [(l[k], m[k]'(by omega))] := by
  have hl : k < (l.zip m).length := by rw [List.length_zip]; omega
  rw [List.take_succ_eq_append_getElem hl]
  simp
end Go.Proofs.YthiiehanlconeaaDoor
namespace Go.Proofs.YthiiehanlconeaaDoor
open Go.RowKit
set_option linter.unusedVariables false
set_option linter.unusedSimpArgs false

/-- The handle of the j-th object of the law's. -/
def hOf (b s : Int) (j : Nat) : Int := handleM b s ((12 + j : Nat) : Int)
theorem hOf_pos (b s : Int) {j : Nat} (h : j ≤ 1000) : hOf b s j ≠ 0 ∧ InI (hOf b s j) := by
  have h1 := handle_in b s (i := 12 + j) (by omega)
  have h2 := normB_in b
  have h3 := normB_in s
  have h4 : 0 ≤ normB s * ((12 + j : Nat) : Int) := Int.mul_nonneg (by omega) (by omega)
  refine ⟨?_, ?_, ?_⟩
  · unfold hOf handleM
    rw [if_neg (by omega)]
    omega
  · unfold hOf; omega
  · unfold hOf; omega
theorem nz_app (a b : List Int) : nz (a ++ b) = nz a ++ nz b := by unfold nz; rw [List.filter_append]
theorem nz_one {h : Int} (h0 : h ≠ 0) : nz [h] = [h] := by unfold nz; simp [h0]
theorem nz_map {h : Nat → Int} {n : Nat} (h0 : ∀ j, j < n → h j ≠ 0) : ∀ (l : List Nat), (∀ y ∈ l, y < n) → nz (l.map h) = l.map h
  | [], _ => rfl
  | a :: l, hl => by
    have e := nz_map h0 l fun y hy => hl y (by simp [hy])
    unfold nz at *
    rw [List.map_cons, List.filter_cons, e, if_pos (by simp [h0 a (hl a (by simp))])]
theorem refsV_app (a b : List Val) : refsV (a ++ b) = refsV a ++ refsV b := by unfold refsV; rw [List.flatMap_append]
theorem refsV_ref (h : Int) : refsV [refV h] = [h] := by unfold refsV refOf refV; simp
theorem framesM_snoc (l : List Frm) {c6 : Nat} {h : Int} (h0 : h ≠ 0) (h6 : c6 < 6) : framesM (l ++ [frameM c6 h]) = framesM l ++ [h] := by
  unfold framesM
  rw [List.flatMap_append, nz_app]
  congr 1
  rcases (show c6 = 0 ∨ c6 = 1 ∨ c6 = 2 ∨ c6 = 3 ∨ c6 = 4 ∨ c6 = 5 by omega) with rfl | rfl | rfl | rfl | rfl | rfl <;>
    simp [frameM, frameRefs, Frm.this, refsV, refOf, refV, nz, h0]
theorem frameM_ok (c6 : Nat) (h : Int) : FrmOk (frameM c6 h) := by
  unfold FrmOk frameM
  refine ⟨?_, ?_, ?_⟩ <;> (dsimp only; split <;> simp)

/-- The order in which the sorts of links are joined. -/
def ordL : List Nat := [4, 0, 1, 2, 3, 5, 6]
/-- The parts of the references, in their order; those of later phases are empty. -/
structure Parts (h : Nat → Int) (p : Nat) (o : Obj) (l s4 s0 s1 s2 s3 s5 : List Nat) : Prop where
  all : l = s4 ++ s0 ++ s1 ++ s2 ++ s3 ++ s5
  e4 : nz [o.proto] = s4.map h
  e0 : o.props.flatMap propRefs = s0.map h
  e1 : refsV o.elems = s1.map h
  e2 : (if o.kind = 5 then [] else refsV o.data) = s2.map h
  e3 : nz [o.env] = s3.map h
  e5 : framesM o.saved = s5.map h
  z0 : p < 1 → s0 = []
  z1 : p < 2 → s1 = []
  z2 : p < 3 → s2 = []
  z3 : p < 4 → s3 = []
  z5 : p < 5 → s5 = []
structure JO (h : Nat → Int) (n p m : Nat) (o : Obj) (x : RObj) : Prop where
  parts : ∃ s4 s0 s1 s2 s3 s5, Parts h p o x.strong s4 s0 s1 s2 s3 s5
  weak : x.weak = decide (o.kind = 5)
  data : x.weak = true → o.data = (x.keys.zip x.vals).flatMap fun q => [refV (h q.1), refV (h q.2)]
  kv : x.keys.length = x.vals.length
  str : ∀ y ∈ x.strong, y < n
  key : ∀ y ∈ x.keys, y < n
  val : ∀ y ∈ x.vals, y < n
  ls : x.strong.length ≤ m
  lk : x.keys.length ≤ m
  lp : o.props.length ≤ m
  le : o.elems.length ≤ m
  ld : o.data.length ≤ 2 * m
  lf : o.saved.length ≤ m
  frm : ∀ f ∈ o.saved, FrmOk f
  dref : ∀ v ∈ o.data, InI v.ref
theorem JO.more {h : Nat → Int} {n p m p' m' : Nat} {o : Obj} {x : RObj} (J : JO h n p m o x) (hp : p ≤ p') (hm : m ≤ m') : JO h n p' m' o x := by
  obtain ⟨⟨s4, s0, s1, s2, s3, s5, P⟩, a2, a3, a4, a5, a6, a7, b1, b2, b3, b4, b5, b6, b7, b8⟩ := J
  exact ⟨⟨s4, s0, s1, s2, s3, s5, P.all, P.e4, P.e0, P.e1, P.e2, P.e3, P.e5, fun q => P.z0 (by omega), fun q => P.z1 (by omega), fun q => P.z2 (by omega), fun q => P.z3 (by omega), fun q => P.z5 (by omega)⟩, a2, a3, a4, a5, a6, a7, by omega, by omega, by omega, by omega, by omega, by omega, b7, b8⟩
theorem JO.init {h : Nat → Int} {n k : Nat} : JO h n 0 0 (newObj (k : Int) 0) ⟨decide ((k : Int) = 5), [], [], []⟩ :=
  ⟨⟨[], [], [], [], [], [], rfl, by simp [newObj, nz], rfl, rfl, by simp [newObj, refsV], by simp [newObj, nz], rfl, fun _ => rfl, fun _ => rfl, fun _ => rfl, fun _ => rfl, fun _ => rfl⟩, rfl, fun _ => rfl, rfl, by simp, by simp, by simp, by simp, by simp, by simp [newObj], by simp [newObj], by simp [newObj], by simp [newObj], by simp [newObj], by simp [newObj]⟩
theorem JO.refs {h : Nat → Int} {n p m : Nat} {o : Obj} {x : RObj} (J : JO h n p m o x) (h0 : ∀ j, j < n → h j ≠ 0) : refsM o = x.strong.map h := by
  obtain ⟨s4, s0, s1, s2, s3, s5, P⟩ := J.parts
  have hs := J.str
  rw [P.all] at hs ⊢
  have hz : ∀ l : List Nat, (∀ y ∈ l, y ∈ s4 ++ s0 ++ s1 ++ s2 ++ s3 ++ s5) → nz (l.map h) = l.map h := fun l hl => nz_map h0 l fun y hy => hs y (hl y hy)
  have h5 : nz (framesM o.saved) = s5.map h := by rw [P.e5]; exact hz _ (by simp_all)
  unfold refsM refsL
  rw [nz_app, nz_app, nz_app, nz_app, nz_app, P.e4, P.e0, P.e1, P.e2, P.e3, h5, hz s0 (by intro y hy; simp [hy]), hz s1 (by intro y hy; simp [hy]), hz s2 (by intro y hy; simp [hy])]
  simp only [List.map_append]
theorem nz_zero {a : Int} {l : List Nat} {h : Nat → Int} (e : nz [a] = l.map h) (ha : a = 0) : l = [] := by
  subst ha
  have : nz [0] = [] := rfl
  rw [this] at e
  exact List.map_eq_nil_iff.1 e.symm
section
variable {h : Nat → Int} {n p m c6 b c : Nat} {o y : Obj} {x : RObj} {key : ByteArray}
/-- One link joined. -/
theorem JO.join (J : JO h n p m o x) (h0 : ∀ j, j < n → h j ≠ 0 ∧ InI (h j)) (hb : b < n) (hc : c < n) (h6 : c6 < 6) (hp7 : p < 7) (hr : joinO (ordL.getD p 0) c6 x.weak (decide (c ∈ x.keys)) key (h b) (h c) o = some y) :
    JO h n p (m + 1) y (joinX (ordL.getD p 0) b c x) := by
  obtain ⟨⟨s4, s0, s1, s2, s3, s5, P⟩, a2, a3, a4, a5, a6, a7, b1, b2, b3, b4, b5, b6, b7, b8⟩ := J
  obtain ⟨w, st, ks, vs⟩ := x
  obtain ⟨kind, proto, props, elems, data, code, env, cls, ref, saved⟩ := o
  dsimp only at *
  obtain ⟨hb0, hbi⟩ := h0 b hb
  obtain ⟨hc0, hci⟩ := h0 c hc
  rcases (show p = 0 ∨ p = 1 ∨ p = 2 ∨ p = 3 ∨ p = 4 ∨ p = 5 ∨ p = 6 by omega) with rfl | rfl | rfl | rfl | rfl | rfl | rfl
  · -- the prototype
    simp only [ordL, List.getD_cons_zero, joinO, joinX] at hr ⊢
    rw [if_pos (by omega)]
    simp at hr
    obtain ⟨he, rfl⟩ := hr
    have e4 := nz_zero P.e4 he
    have e0 := P.z0 (by omega)
    have e1 := P.z1 (by omega)
    have e2 := P.z2 (by omega)
    have e3 := P.z3 (by omega)
    have e5 := P.z5 (by omega)
    subst e4 e0 e1 e2 e3 e5
    have hst : st = [] := P.all
    subst hst
    refine ⟨⟨[b], [], [], [], [], [], ⟨rfl, nz_one hb0, P.e0, P.e1, P.e2, P.e3, P.e5, fun _ => rfl, fun _ => rfl, fun _ => rfl, fun _ => rfl, fun _ => rfl⟩⟩, a2, a3, a4, ?_, a6, a7, ?_, Nat.le_trans b2 (by omega), Nat.le_trans b3 (by omega), Nat.le_trans b4 (by omega), Nat.le_trans b5 (by omega), Nat.le_trans b6 (by omega), b7, b8⟩
    · intro y hy
      simp at hy
      omega
    · simp
  · -- a property
    simp only [ordL, List.getD_cons_zero, List.getD_cons_succ, joinO, joinX] at hr ⊢
    rw [if_pos (by omega)]
    simp at hr
    subst hr
    have e1 := P.z1 (by omega)
    have e2 := P.z2 (by omega)
    have e3 := P.z3 (by omega)
    have e5 := P.z5 (by omega)
    subst e1 e2 e3 e5
    refine ⟨⟨s4, s0 ++ [b], [], [], [], [], ⟨?_, P.e4, ?_, P.e1, P.e2, P.e3, P.e5, fun q => absurd q (by omega), fun _ => rfl, fun _ => rfl, fun _ => rfl, fun _ => rfl⟩⟩, a2, a3, a4, ?_, a6, a7, ?_, Nat.le_trans b2 (by omega), ?_, Nat.le_trans b4 (by omega), Nat.le_trans b5 (by omega), Nat.le_trans b6 (by omega), b7, b8⟩
    · dsimp only; rw [P.all]; simp
    · dsimp only
      rw [List.flatMap_append, P.e0, List.map_append]
      rfl
    · intro y hy
      rcases List.mem_append.1 hy with q | q
      · exact a5 y q
      · rw [List.mem_singleton.1 q]; exact hb
    · dsimp only; rw [List.length_append]; simp; omega
    · rw [List.length_append]; simp; omega
  · -- an element
    simp only [ordL, List.getD_cons_zero, List.getD_cons_succ, joinO, joinX] at hr ⊢
    rw [if_pos (by omega)]
    simp at hr
    subst hr
    have e2 := P.z2 (by omega)
    have e3 := P.z3 (by omega)
    have e5 := P.z5 (by omega)
    subst e2 e3 e5
    refine ⟨⟨s4, s0, s1 ++ [b], [], [], [], ⟨?_, P.e4, P.e0, ?_, P.e2, P.e3, P.e5, fun q => absurd q (by omega), fun q => absurd q (by omega), fun _ => rfl, fun _ => rfl, fun _ => rfl⟩⟩, a2, a3, a4, ?_, a6, a7, ?_, Nat.le_trans b2 (by omega), Nat.le_trans b3 (by omega), ?_, Nat.le_trans b5 (by omega), Nat.le_trans b6 (by omega), b7, b8⟩
    · dsimp only; rw [P.all]; simp
    · dsimp only
      rw [refsV_app, P.e1, List.map_append, refsV_ref]
      rfl
    · intro y hy
      rcases List.mem_append.1 hy with q | q
      · exact a5 y q
      · rw [List.mem_singleton.1 q]; exact hb
    · dsimp only; rw [List.length_append]; simp; omega
    · rw [List.length_append]; simp; omega
  · -- data
    simp only [ordL, List.getD_cons_zero, List.getD_cons_succ, joinO, joinX] at hr ⊢
    rw [if_pos (by omega)]
    simp at hr
    obtain ⟨he, rfl⟩ := hr
    have hk : ¬ kind = 5 := fun q => by rw [he] at a2; simp [q] at a2
    have e3 := P.z3 (by omega)
    have e5 := P.z5 (by omega)
    subst e3 e5
    have q2 := P.e2
    dsimp only at q2
    rw [if_neg hk] at q2
    refine ⟨⟨s4, s0, s1, s2 ++ [b], [], [], ⟨?_, P.e4, P.e0, P.e1, ?_, P.e3, P.e5, fun q => absurd q (by omega), fun q => absurd q (by omega), fun q => absurd q (by omega), fun _ => rfl, fun _ => rfl⟩⟩, ?_, ?_, a4, ?_, a6, a7, ?_, Nat.le_trans b2 (by omega), Nat.le_trans b3 (by omega), Nat.le_trans b4 (by omega), ?_, Nat.le_trans b6 (by omega), b7, ?_⟩
    · dsimp only; rw [P.all]; simp
    · dsimp only
      rw [if_neg hk, refsV_app, q2, List.map_append, refsV_ref]
      rfl
    · exact a2
    · intro q; rw [he] at q; cases q
    · intro y hy
      rcases List.mem_append.1 hy with q | q
      · exact a5 y q
      · rw [List.mem_singleton.1 q]; exact hb
    · dsimp only; rw [List.length_append]; simp; omega
    · rw [List.length_append]; simp; omega
    · intro v hv
      rcases List.mem_append.1 hv with q | q
      · exact b8 v q
      · rw [List.mem_singleton.1 q]; exact hbi
  · -- the environment
    simp only [ordL, List.getD_cons_zero, List.getD_cons_succ, joinO, joinX] at hr ⊢
    rw [if_pos (by omega)]
    simp at hr
    obtain ⟨he, rfl⟩ := hr
    have e3 := nz_zero P.e3 he
    have e5 := P.z5 (by omega)
    subst e3 e5
    refine ⟨⟨s4, s0, s1, s2, [b], [], ⟨?_, P.e4, P.e0, P.e1, P.e2, nz_one hb0, P.e5, fun q => absurd q (by omega), fun q => absurd q (by omega), fun q => absurd q (by omega), fun q => absurd q (by omega), fun _ => rfl⟩⟩, a2, a3, a4, ?_, a6, a7, ?_, Nat.le_trans b2 (by omega), Nat.le_trans b3 (by omega), Nat.le_trans b4 (by omega), Nat.le_trans b5 (by omega), Nat.le_trans b6 (by omega), b7, b8⟩
    · dsimp only; rw [P.all]; simp
    · intro y hy
      rcases List.mem_append.1 hy with q | q
      · exact a5 y q
      · rw [List.mem_singleton.1 q]; exact hb
    · dsimp only; rw [List.length_append]; simp; omega
  · -- a saved frame
    simp only [ordL, List.getD_cons_zero, List.getD_cons_succ, joinO, joinX] at hr ⊢
    rw [if_pos (by omega)]
    simp at hr
    subst hr
    refine ⟨⟨s4, s0, s1, s2, s3, s5 ++ [b], ⟨?_, P.e4, P.e0, P.e1, P.e2, P.e3, ?_, fun q => absurd q (by omega), fun q => absurd q (by omega), fun q => absurd q (by omega), fun q => absurd q (by omega), fun q => absurd q (by omega)⟩⟩, a2, a3, a4, ?_, a6, a7, ?_, Nat.le_trans b2 (by omega), Nat.le_trans b3 (by omega), Nat.le_trans b4 (by omega), Nat.le_trans b5 (by omega), ?_, ?_, b8⟩
    · dsimp only; rw [P.all]; simp
    · dsimp only
      rw [framesM_snoc _ hb0 h6, P.e5, List.map_append]
      rfl
    · intro y hy
      rcases List.mem_append.1 hy with q | q
      · exact a5 y q
      · rw [List.mem_singleton.1 q]; exact hb
    · dsimp only; rw [List.length_append]; simp; omega
    · rw [List.length_append]; simp; omega
    · intro f hf
      rcases List.mem_append.1 hf with q | q
      · exact b7 f q
      · rw [List.mem_singleton.1 q]; exact frameM_ok _ _
  · -- a weak entry
    simp only [ordL, List.getD_cons_zero, List.getD_cons_succ, joinO, joinX] at hr ⊢
    rw [if_neg (by omega)]
    simp at hr
    obtain ⟨⟨he, hm⟩, rfl⟩ := hr
    have hk : kind = 5 := by rw [he] at a2; simpa using a2.symm
    refine ⟨⟨s4, s0, s1, s2, s3, s5, ⟨P.all, P.e4, P.e0, P.e1, ?_, P.e3, P.e5, fun q => absurd q (by omega), fun q => absurd q (by omega), fun q => absurd q (by omega), fun q => absurd q (by omega), fun q => absurd q (by omega)⟩⟩, a2, ?_, ?_, a5, ?_, ?_, Nat.le_trans b1 (by omega), ?_, Nat.le_trans b3 (by omega), Nat.le_trans b4 (by omega), ?_, Nat.le_trans b6 (by omega), b7, ?_⟩
    · have q2 := P.e2
      dsimp only at q2 ⊢
      rw [if_pos hk] at q2 ⊢
      exact q2
    · intro _
      rw [List.zip_append a4, List.flatMap_append, a3 he]
      rfl
    · simp [a4]
    · intro y hy
      simp at hy
      rcases hy with q | q
      · exact a6 y q
      · omega
    · intro y hy
      simp at hy
      rcases hy with q | q
      · exact a7 y q
      · omega
    · simp; omega
    · rw [List.length_append]; simp; omega
    · intro v hv
      rcases List.mem_append.1 hv with q | q
      · exact b8 v q
      · simp at q
        rcases q with rfl | rfl
        · exact hci
        · exact hbi
end
end Go.Proofs.YthiiehanlconeaaDoor
namespace Go.Proofs.YthiiehanlconeaaDoor
open Go.RowKit
set_option linter.unusedVariables false
set_option linter.unusedSimpArgs false

/-- Both graphs, as m joins up to phase p leave them. -/
structure GI (n : Nat) (b s : Int) (L : List Int) (hp : Hp) (xs : List RObj) (p m : Nat) : Prop where
  ok : GOk n L hp xs
  base : hp.base = b
  stride : hp.stride = s
  jo : ∀ j, j < n → JO (hOf b s) n p m (hp.slots.getD (12 + j) noSlt).obj (xs.getD j noR)
  old : ∀ i, i < 12 → hp.slots.getD i noSlt = (newM b s).slots.getD i noSlt
  sys : hp.global = (newM b s).global ∧ hp.texts = (newM b s).texts ∧ hp.protos = (newM b s).protos ∧ hp.free = [] ∧ hp.live = ((12 + n : Nat) : Int)
theorem getD_map_range {β : Type} (f : Nat → β) (d : β) {n j : Nat} (h : j < n) : ((List.range n).map f).getD j d = f j := by
  rw [List.getD_eq_getElem?_getD, List.getElem?_map, List.getElem?_range h]; rfl
theorem putO_get {hp : Hp} {i : Nat} (hi : i < hp.slots.length) (o : Obj) (j : Nat) : (putO hp i o).slots.getD j noSlt = if i = j then { hp.slots.getD i noSlt with obj := o } else hp.slots.getD j noSlt := by
  show (hp.slots.set i { hp.slots.getD i noSlt with obj := o }).getD j noSlt = _
  rw [List.getD_eq_getElem?_getD, List.getElem?_set]
  by_cases e : i = j
  · rw [if_pos e, if_pos e, if_pos hi]; rfl
  · rw [if_neg e, if_neg e, List.getD_eq_getElem?_getD]
theorem setD_get {α : Type} {l : List α} {i : Nat} (hi : i < l.length) (x d : α) (j : Nat) : (l.set i x).getD j d = if i = j then x else l.getD j d := by
  rw [List.getD_eq_getElem?_getD, List.getElem?_set]
  by_cases e : i = j
  · rw [if_pos e, if_pos e, if_pos hi]; rfl
  · rw [if_neg e, if_neg e, List.getD_eq_getElem?_getD]
section
variable {n p m : Nat} {b s : Int} {L : List Int} {hp : Hp} {xs : List RObj}
theorem GI.handle (G : GI n b s L hp xs p m) {j : Nat} (h : j < n) : L.getD j 0 = hOf b s j := by
  rw [G.ok.L, G.base, G.stride, getD_map_range _ _ h]; rfl
theorem GI.pos (G : GI n b s L hp xs p m) : ∀ j, j < n → hOf b s j ≠ 0 ∧ InI (hOf b s j) := fun j hj => hOf_pos b s (by have := G.ok.few; omega)
theorem GI.more (G : GI n b s L hp xs p m) {p' m' : Nat} (h1 : p ≤ p') (h2 : m ≤ m') : GI n b s L hp xs p' m' := ⟨G.ok, G.base, G.stride, fun j hj => (G.jo j hj).more h1 h2, G.old, G.sys⟩
theorem GOk.put (ok : GOk n L hp xs) {a : Nat} (ha : a < n) (o : Obj) (x : RObj) : GOk n L (putO hp (12 + a) o) (xs.set a x) := by
  have hl : 12 + a < hp.slots.length := by rw [ok.slots]; omega
  refine ⟨ok.pos, ok.few, ok.L, by rw [List.length_set]; exact ok.xs, by show (hp.slots.set _ _).length = _; rw [List.length_set]; exact ok.slots, fun s hs => ?_⟩
  have hs' : s < hp.slots.length := by have h2 : s < (hp.slots.set (12 + a) { hp.slots.getD (12 + a) noSlt with obj := o }).length := hs; rwa [List.length_set] at h2
  have e := putO_get hl o s
  rw [getD_get hs] at e
  rw [e]
  by_cases q : 12 + a = s
  · rw [if_pos q, getD_get hl]; exact ok.used _ hl
  · rw [if_neg q, getD_get hs']; exact ok.used _ hs'
theorem GI.join (G : GI n b s L hp xs p m) (hp7 : p < 7) {k : Lk} (hr : k.sort % 7 = ordL.getD p 0) (key : ByteArray) : GI n b s L (joinM key n L hp xs k).1 (joinM key n L hp xs k).2 p (m + 1) := by
  have ha : k.frm % n < n := Nat.mod_lt _ G.ok.pos
  have hb : k.to_ % n < n := Nat.mod_lt _ G.ok.pos
  have hc : k.by_ % n < n := Nat.mod_lt _ G.ok.pos
  have hl : 12 + k.frm % n < hp.slots.length := by rw [G.ok.slots]; omega
  have hx : k.frm % n < xs.length := by rw [G.ok.xs]; exact ha
  unfold joinM
  rw [G.handle hb, G.handle hc, hr]
  generalize hj : joinO (ordL.getD p 0) (k.by_ % 6) (xs.getD (k.frm % n) noR).weak (decide (k.by_ % n ∈ (xs.getD (k.frm % n) noR).keys)) key (hOf b s (k.to_ % n)) (hOf b s (k.by_ % n)) (hp.slots.getD (12 + k.frm % n) noSlt).obj = r
  cases r with
  | none => exact G.more (Nat.le_refl _) (by omega)
  | some o =>
    dsimp only
    refine ⟨G.ok.put ha _ _, G.base, G.stride, fun j hj' => ?_, fun i hi => ?_, G.sys⟩
    · rw [putO_get hl, setD_get hx]
      by_cases e : k.frm % n = j
      · rw [if_pos (by omega), if_pos e]
        exact (G.jo _ ha).join G.pos hb hc (Nat.mod_lt _ (by omega)) hp7 hj
      · rw [if_neg (by omega), if_neg e]
        exact (G.jo j hj').more (Nat.le_refl _) (by omega)
    · rw [putO_get hl, if_neg (by omega)]
      exact G.old i hi
theorem GI.hpOk (G : GI n b s L hp xs p m) (hm : m ≤ 500) : HpOk hp := by
  have key : ∀ i (hi : i < hp.slots.length), (i < 12 ∧ ∃ k q : Int, hp.slots[i].obj = newObj k q ∧ InI q) ∨ ∃ j, j < n ∧ i = 12 + j ∧ hp.slots[i].obj = (hp.slots.getD (12 + j) noSlt).obj := fun i hi => by
    by_cases h : i < 12
    · have e := G.old i h
      have hl : i < (newM b s).slots.length := h
      rw [getD_get hi, getD_get hl] at e
      obtain ⟨k, q, e2, hq⟩ := (newM_fresh b s _ (List.getElem_mem hl)).ex
      exact .inl ⟨h, k, q, by rw [e, e2], hq⟩
    · refine .inr ⟨i - 12, by rw [G.ok.slots] at hi; omega, by omega, ?_⟩
      rw [show 12 + (i - 12) = i from by omega, getD_get hi]
  refine ⟨by rw [G.ok.slots]; have := G.ok.few; omega, fun i hi => ?_, fun i hi r hr => ?_, fun i hi v hv => ?_⟩
  · rcases key i hi with ⟨-, k, q, e, -⟩ | ⟨j, hj, rfl, e⟩
    · rw [e]; exact ⟨by simp [newObj], by simp [newObj], by simp [newObj], by simp [newObj], fun f hf => by simp [newObj] at hf⟩
    · have J := G.jo j hj
      rw [e]
      exact ⟨by have := J.lp; omega, by have := J.le; omega, by have := J.ld; omega, by have := J.lf; omega, J.frm⟩
  · rcases key i hi with ⟨-, k, q, e, hq⟩ | ⟨j, hj, rfl, e⟩
    · rw [e, refsM_new] at hr
      have : r ∈ [q] := (List.mem_filter.1 hr).1
      rw [List.mem_singleton.1 this]; exact hq
    · have J := G.jo j hj
      rw [e, J.refs fun j hj => (G.pos j hj).1] at hr
      obtain ⟨y, hy, rfl⟩ := List.mem_map.1 hr
      exact (G.pos y (J.str y hy)).2
  · rcases key i hi with ⟨-, k, q, e, hq⟩ | ⟨j, hj, rfl, e⟩
    · rw [e] at hv
      simp [newObj] at hv
    · rw [e] at hv
      exact (G.jo j hj).dref v hv
theorem GI.xOk (G : GI n b s L hp xs p m) (hm : m ≤ 500) {more : List (List Nat)} (h1 : ∀ l ∈ more, ∀ y ∈ l, y < n) (h2 : ∀ l ∈ more, l.length ≤ 100000) (h3 : more.length ≤ 100000) : XOk n xs more := by
  have key : ∀ x ∈ xs, ∃ j, ∃ o, JO (hOf b s) n p m o x := fun x hx => by
    obtain ⟨j, hj, rfl⟩ := List.mem_iff_getElem.1 hx
    have J := G.jo j (by rw [← G.ok.xs]; exact hj)
    rw [getD_get hj] at J
    exact ⟨j, _, J⟩
  refine ⟨G.ok.xs, fun x hx => ?_, fun x hx => ?_, fun x hx => ?_, h1, G.ok.few, fun x hx => ?_, fun x hx => ?_, h2, h3⟩ <;> obtain ⟨j, o, J⟩ := key x hx
  · exact J.str
  · exact J.val
  · exact J.kv
  · have := J.ls; omega
  · have := J.lk; omega
theorem GI.lens (G : GI n b s L hp xs p m) (hm : m ≤ 500) : ∀ x ∈ xs, x.strong.length ≤ 1000 ∧ x.keys.length ≤ 1000 ∧ x.vals.length ≤ 1000 := fun x hx => by
  obtain ⟨j, hj, rfl⟩ := List.mem_iff_getElem.1 hx
  have J := G.jo j (by rw [← G.ok.xs]; exact hj)
  rw [getD_get hj] at J
  have h1 := J.ls
  have h2 := J.lk
  have h3 := J.kv
  omega
end

/-! ### The program's discovery, told by slots -/
def gP (hp : Hp) (em : Int → List Int) (i : Nat) : List Nat := (refsM (hp.slots.getD i noSlt).obj ++ em (handleM hp.base hp.stride (i : Nat))).filterMap (slotOf hp)
def pairS (hp : Hp) (q : Val × Val) : Option (Nat × Nat) :=
  if q.2.kind = 5 ∧ q.1.kind = 5 then (match slotOf hp q.1.ref, slotOf hp q.2.ref with
    | some a, some c => some (a, c)
    | _, _ => none) else none
def psP (hp : Hp) (i : Nat) : List (Nat × Nat) := if (hp.slots.getD i noSlt).obj.kind = 5 then (pairsM (hp.slots.getD i noSlt).obj.data).filterMap (pairS hp) else []
section
variable {hp : Hp} {em : Int → List Int}
theorem addsK_eq : ∀ (hs : List Int) (K : List Nat), addsK hp K hs = addAll K (hs.filterMap (slotOf hp))
  | [], K => rfl
  | a :: l, K => by
    have ih := addsK_eq l (addK hp K a)
    unfold addsK at ih ⊢
    rw [List.foldl_cons, ih]
    unfold addK
    cases h : slotOf hp a with
    | none => rw [List.filterMap_cons_none h]
    | some i => rw [List.filterMap_cons_some h]; unfold addAll; rw [List.foldl_cons]
theorem wkV_eq (K : List Nat) (q : Val × Val) : wkV hp K q = match pairS hp q with
    | some r => wkStep K r
    | none => K := by
  unfold wkV pairS hasK addK wkStep
  by_cases h : q.2.kind = 5 ∧ q.1.kind = 5
  · cases h1 : slotOf hp q.1.ref <;> cases h2 : slotOf hp q.2.ref <;> simp [h]
  · rw [if_neg h]
    simp only
    rw [if_neg (fun x => h ⟨x.1, x.2.1⟩)]
theorem wkVs_eq : ∀ (l : List (Val × Val)) (K : List Nat), l.foldl (wkV hp) K = (l.filterMap (pairS hp)).foldl wkStep K
  | [], K => rfl
  | a :: l, K => by
    rw [List.foldl_cons, wkVs_eq l, wkV_eq]
    cases h : pairS hp a with
    | none => rw [List.filterMap_cons_none h]
    | some i => rw [List.filterMap_cons_some h, List.foldl_cons]
theorem weakS_eq (K : List Nat) (i : Nat) : weakS hp K i = (psP hp i).foldl wkStep K := by
  unfold weakS weakObj psP
  split
  · exact wkVs_eq _ _
  · rfl
theorem weakM_eq (K : List Nat) : weakM hp K = weakP (psP hp) K := by
  have : ∀ l K0 : List Nat, l.foldl (weakS hp) K0 = (l.flatMap (psP hp)).foldl wkStep K0 := by
    intro l
    induction l with
    | nil => intro K0; rfl
    | cons a l ih => intro K0; rw [List.foldl_cons, ih, weakS_eq, List.flatMap_cons, List.foldl_append]
  exact this K K
theorem procK_eq (K : List Nat) (i : Nat) : procK hp em K i = addAll K (gP hp em i) := by
  unfold procK gP
  rw [addsK_eq, addsK_eq, List.filterMap_append, addAll_append]
theorem drainM_eq : ∀ (f : Nat) (K : List Nat) (p : Nat), drainM hp em f K p = drain (gP hp em) f K p
  | 0, K, p => rfl
  | f + 1, K, p => by
    cases h : K[p]? with
    | none => simp only [drainM, drain, h]
    | some i => simp only [drainM, drain, h]; rw [procK_eq, drainM_eq f]
theorem liveM_eq (N : Nat) : ∀ (f : Nat) (K : List Nat) (p : Nat), liveM hp em N f K p = liveK (gP hp em) (psP hp) N f K p
  | 0, K, p => rfl
  | f + 1, K, p => by
    simp only [liveM, liveK]
    rw [drainM_eq, weakM_eq, liveM_eq N f]
end
theorem pairs_flat {α : Type} (f g : α → Val) : ∀ l : List α, pairsM (l.flatMap fun q => [f q, g q]) = l.map fun q => (f q, g q)
  | [] => by simp [pairsM]
  | a :: l => by
    have ih := pairs_flat f g l
    unfold pairsM at ih ⊢
    rw [List.flatMap_cons]
    generalize (l.flatMap fun q => [f q, g q]) = d at *
    rw [show ([f a, g a] ++ d).length / 2 = d.length / 2 + 1 from by simp; omega, List.range_succ_eq_map, List.map_cons, List.map_map, List.map_cons, ← ih]
    rfl
theorem Good.liveR {N : Nat} {g : Nat → List Nat} {ps : Nat → List (Nat × Nat)} (hg : ∀ o, o < N → ∀ y ∈ g o, y < N) (hps : ∀ o, o < N → ∀ p ∈ ps o, p.2 < N) : ∀ (f : Nat) {K : List Nat} (p : Nat), Good N K → Good N (liveR g ps N f K p)
  | 0, K, p, h => h
  | f + 1, K, p, h => by
    have h2 := (Good.drain hg N p h).weakP hps
    rw [liveR_step]
    split
    · exact h2
    · exact Good.liveR hg hps f _ h2
section
variable {n p m : Nat} {b s : Int} {L : List Int} {hp : Hp} {xs : List RObj} {em : Int → List Int} {more : List (List Nat)}
theorem GI.slot (G : GI n b s L hp xs p m) {j : Nat} (h : j < n) : slotOf hp (hOf b s j) = some (12 + j) := by
  have hs : 12 + j < hp.slots.length := by rw [G.ok.slots]; omega
  have := slotOf_handle hs (by rw [getD_get hs]; exact G.ok.used _ hs) (by rw [G.ok.slots]; have := G.ok.few; omega)
  rwa [G.base, G.stride] at this
theorem GI.slots (G : GI n b s L hp xs p m) : ∀ l : List Nat, (∀ y ∈ l, y < n) → (l.map (hOf b s)).filterMap (slotOf hp) = l.map (12 + ·)
  | [], _ => rfl
  | a :: l, h => by rw [List.map_cons, List.filterMap_cons_some (G.slot (h a (by simp))), GI.slots G l fun y hy => h y (by simp [hy]), List.map_cons]
theorem GI.emb (G : GI n b s L hp xs p m) (hem : ∀ j, j < n → em (hOf b s j) = (more.getD j []).map (hOf b s)) (hmore : ∀ j, ∀ y ∈ more.getD j [], y < n) : Emb 12 n [] (gR xs more) (gP hp em) (psR xs) (psP hp) := by
  refine ⟨Good.nil 12, fun _ h => (by cases h), fun _ h => (by cases h), fun j hj => ?_, fun j hj => ?_, fun j hj y hy => ?_, fun j hj q hq => ?_⟩
  · have J := G.jo j hj
    unfold gP gR
    rw [J.refs fun j hj => (G.pos j hj).1, G.base, G.stride, show handleM b s ((12 + j : Nat) : Int) = hOf b s j from rfl, hem j hj, ← List.map_append, G.slots]
    intro y hy
    rcases List.mem_append.1 hy with h | h
    · exact J.str y h
    · exact hmore j y h
  · have J := G.jo j hj
    unfold psP psR
    generalize (hp.slots.getD (12 + j) noSlt).obj = o at *
    generalize xs.getD j noR = x at *
    have hw := J.weak
    by_cases hk : o.kind = 5
    · rw [if_pos hk, if_pos (by rw [hw]; simp [hk]), J.data (by rw [hw]; simp [hk])]
      rw [pairs_flat (fun q : Nat × Nat => refV (hOf b s q.1)) (fun q => refV (hOf b s q.2))]
      have : ∀ l : List (Nat × Nat), (∀ q ∈ l, q.1 < n ∧ q.2 < n) → (l.map fun q => (refV (hOf b s q.1), refV (hOf b s q.2))).filterMap (pairS hp) = l.map fun q => (12 + q.1, 12 + q.2) := by
        intro l
        induction l with
        | nil => intro _; rfl
        | cons a l ih =>
          intro h
          obtain ⟨h1, h2⟩ := h a (by simp)
          rw [List.map_cons, List.map_cons, List.filterMap_cons_some (b := (12 + a.1, 12 + a.2)), ih fun q hq => h q (by simp [hq])]
          unfold pairS
          rw [if_pos ⟨rfl, rfl⟩]
          simp only [refV, G.slot h1, G.slot h2]
      exact this _ fun q hq => ⟨J.key _ (List.of_mem_zip hq).1, J.val _ (List.of_mem_zip hq).2⟩
    · rw [if_neg hk, if_neg (by rw [hw]; simp [hk])]
      rfl
  · unfold gR at hy
    rcases List.mem_append.1 hy with h | h
    · exact (G.jo j hj).str y h
    · exact hmore j y h
  · unfold psR at hq
    split at hq
    · exact (G.jo j hj).val _ (List.of_mem_zip hq).2
    · cases hq
/-- The program's list of handles is the reference's list of numbers. -/
theorem GI.live (G : GI n b s L hp xs p m) (hem : ∀ j, j < n → em (hOf b s j) = (more.getD j []).map (hOf b s)) (hmore : ∀ j, ∀ y ∈ more.getD j [], y < n) (hL : L.length = n) (zs : List Nat) :
    (liveM hp em hp.slots.length hp.slots.length (addsK hp [] (handlesM L zs)) 0).map (fun i => handleM hp.base hp.stride (i : Nat)) = (liveR (gR xs more) (psR xs) n (n + 1) (addAll [] (zs.map (· % n))) 0).map (hOf b s) ∧
      Good n (liveR (gR xs more) (psR xs) n (n + 1) (addAll [] (zs.map (· % n))) 0) := by
  have E := G.emb hem hmore
  have hz : ∀ y ∈ zs.map (· % n), y < n := fun y hy => by
    obtain ⟨z, -, rfl⟩ := List.mem_map.1 hy
    exact Nat.mod_lt _ G.ok.pos
  have hg : Good n (addAll [] (zs.map (· % n))) := (Good.nil n).all hz
  refine ⟨?_, Good.liveR E.glt E.plt _ _ hg⟩
  have hh : handlesM L zs = (zs.map (· % n)).map (hOf b s) := by
    unfold handlesM
    rw [List.map_map]
    refine List.map_congr_left fun z _ => ?_
    rw [hL, G.handle (Nat.mod_lt _ G.ok.pos)]
    rfl
  have ha := emb_all (c := 12) (S := []) (Good.nil 12) (zs.map (· % n)) []
  have e0 : Go.Proofs.YthiiehanlconeaaDoor.emb 12 [] [] = [] := rfl
  rw [e0] at ha
  rw [liveM_eq, addsK_eq, hh, G.slots _ hz, ha, live_emb E (by rw [G.ok.slots]; omega) hg]
  unfold Go.Proofs.YthiiehanlconeaaDoor.emb
  rw [List.nil_append, List.map_map, G.base, G.stride]
  rfl
end
end Go.Proofs.YthiiehanlconeaaDoor
namespace Go.Proofs.YthiiehanlconeaaDoor
set_option linter.unusedVariables false

theorem addAll_mem {K l : List Nat} {y : Nat} (h : y ∈ l) : y ∈ addAll K l := by
  induction l generalizing K with
  | nil => cases h
  | cons a l ih =>
    unfold addAll at *
    rw [List.foldl_cons]
    rcases List.mem_cons.1 h with rfl | h
    · refine (addAll_prefix (addN K y) l).subset ?_
      unfold addN; split
      · assumption
      · simp
    · exact ih h
theorem pre_mem {K K' : List Nat} (h : K <+: K') {y : Nat} (hy : y ∈ K) : y ∈ K' := h.subset hy
section
variable {N : Nat} {g : Nat → List Nat} {ps : Nat → List (Nat × Nat)}
theorem drain_prefix (g : Nat → List Nat) : ∀ (f : Nat) (K : List Nat) (p : Nat), K <+: drain g f K p
  | 0, K, p => List.prefix_refl _
  | f + 1, K, p => by
    by_cases h : p < K.length
    · rw [drain_some h]; exact (addAll_prefix _ _).trans (drain_prefix g f _ _)
    · rw [drain_none (by omega)]; exact List.prefix_refl _
/-- The first p elements have been looked through. -/
def Seen2 (g : Nat → List Nat) (K : List Nat) (p : Nat) : Prop := ∀ i (h : i < K.length), i < p → ∀ y ∈ g K[i], y ∈ K
theorem seen_pre {K K' : List Nat} {p : Nat} (h : Seen2 g K p) (hp : p ≤ K.length) (hk : K <+: K') : Seen2 g K' p := by
  intro i hi hip y hy
  obtain ⟨t, rfl⟩ := hk
  rw [List.getElem_append_left (by omega)] at hy
  exact List.mem_append_left _ (h i (by omega) hip y hy)
theorem drain_closed (hg : ∀ o, o < N → ∀ y ∈ g o, y < N) : ∀ (f : Nat) (K : List Nat) (p : Nat), N - p ≤ f → Good N K → Seen2 g K p → p ≤ K.length → Seen2 g (drain g f K p) (drain g f K p).length
  | 0, K, p, hf, hK, hs, hp => by
    have := good_len N K hK
    rw [drain_none (by omega)]
    intro i hi _
    exact hs i hi (by omega)
  | f + 1, K, p, hf, hK, hs, hp => by
    by_cases h : p < K.length
    · have := good_len N K hK
      rw [drain_some h]
      refine drain_closed hg f _ (p + 1) (by omega) (hK.all (hg _ (hK.lt _ (List.getElem_mem h)))) ?_ (by have := addAll_len K (g K[p]); omega)
      intro i hi hip y hy
      by_cases e : i < p
      · exact seen_pre hs hp (addAll_prefix _ _) i hi e y hy
      · have e2 : i = p := by omega
        subst e2
        have : (addAll K (g K[i]))[i] = K[i] := by
          obtain ⟨t, ht⟩ := addAll_prefix K (g K[i])
          have hh : (addAll K (g K[i]))[i]? = K[i]? := by rw [← ht, List.getElem?_append_left h]
          rw [List.getElem?_eq_getElem hi, List.getElem?_eq_getElem h] at hh
          exact Option.some.inj hh
        rw [this] at hy
        exact addAll_mem hy
    · rw [drain_none (by omega)]
      intro i hi _
      exact hs i hi (by omega)
theorem wk_mem {l : List (Nat × Nat)} {K : List Nat} {q : Nat × Nat} (hq : q ∈ l) (h1 : q.1 ∈ K) : q.2 ∈ l.foldl wkStep K := by
  induction l generalizing K with
  | nil => cases hq
  | cons a l ih =>
    rw [List.foldl_cons]
    rcases List.mem_cons.1 hq with rfl | hq
    · refine (wkAll_prefix l _).subset ?_
      unfold wkStep
      rw [if_pos h1]
      unfold addN; split
      · assumption
      · simp
    · exact ih hq ((wkStep_prefix K a).subset h1)
structure Closed (g : Nat → List Nat) (ps : Nat → List (Nat × Nat)) (K : List Nat) : Prop where
  g : ∀ o ∈ K, ∀ y ∈ g o, y ∈ K
  w : ∀ o ∈ K, ∀ q ∈ ps o, q.1 ∈ K → q.2 ∈ K
theorem liveR_closed (hg : ∀ o, o < N → ∀ y ∈ g o, y < N) (hps : ∀ o, o < N → ∀ q ∈ ps o, q.2 < N) : ∀ (f : Nat) (K : List Nat) (p : Nat), N + 1 - p ≤ f → (p < K.length ∨ K = [] ∧ p = 0) → Good N K → Seen2 g K p → Closed g ps (liveR g ps N f K p)
  | 0, K, p, hf, hp, hK, hs => by
    have := good_len N K hK
    rcases hp with h | ⟨rfl, rfl⟩ <;> omega
  | f + 1, K, p, hf, hp, hK, hs => by
    have hpl : p ≤ K.length := by rcases hp with h | ⟨rfl, rfl⟩ <;> simp_all <;> omega
    have h1 := drain_closed hg N K p (by omega) hK hs hpl
    have h2 : Good N (drain g N K p) := Good.drain hg N p hK
    have h3 := h2.weakP hps
    have h4 := weakP_len (ps := ps) (drain g N K p)
    have h5 : drain g N K p <+: weakP ps (drain g N K p) := wkAll_prefix _ _
    have h6 := drain_len (g := g) N K p
    unfold liveR
    generalize drain g N K p = D at *
    by_cases e : (weakP ps D).length = D.length
    · rw [if_pos e]
      have e2 : weakP ps D = D := (h5.eq_of_length e.symm).symm
      rw [e2]
      refine ⟨fun o ho y hy => ?_, fun o ho q hq h => ?_⟩
      · obtain ⟨i, hi, rfl⟩ := List.mem_iff_getElem.1 ho
        exact h1 i hi hi y hy
      · have : q.2 ∈ weakP ps D := wk_mem (List.mem_flatMap.2 ⟨o, ho, hq⟩) h
        rwa [e2] at this
    · rw [if_neg e]
      have hlen := good_len N _ h3
      have hD : D.length ≠ 0 ∨ D = [] := by by_cases z : D.length = 0; exact .inr (List.eq_nil_of_length_eq_zero z); exact .inl z
      have hne : D ≠ [] := by
        rintro rfl
        exact e rfl
      have hD0 : 0 < D.length := List.length_pos_iff.2 hne
      refine liveR_closed hg hps f _ _ ?_ (.inl (by omega)) h3 (seen_pre h1 (Nat.le_refl _) h5)
      rcases hp with h | ⟨rfl, rfl⟩ <;> simp_all <;> omega
/-! ### Found again -/
variable {g' : Nat → List Nat} {ps' : Nat → List (Nat × Nat)} {L : List Nat}
theorem drain_same (hgg : ∀ o ∈ L, g' o = g o) : ∀ (f : Nat) (K : List Nat) (p : Nat), (∀ y ∈ drain g f K p, y ∈ L) → drain g' f K p = drain g f K p
  | 0, K, p, _ => rfl
  | f + 1, K, p, h => by
    by_cases hp : p < K.length
    · rw [drain_some hp] at h ⊢
      have hk : K[p] ∈ L := h _ ((drain_prefix g f _ _).subset ((addAll_prefix _ _).subset (List.getElem_mem hp)))
      rw [drain_some hp, hgg _ hk]
      exact drain_same hgg f _ _ h
    · rw [drain_none (by omega), drain_none (by omega)]
theorem wks_same : ∀ (l : List (Nat × Nat)) (K : List Nat), (∀ y ∈ l.foldl wkStep K, y ∈ L) → (l.filter fun q => decide (q.1 ∈ L)).foldl wkStep K = l.foldl wkStep K
  | [], K, _ => rfl
  | a :: l, K, h => by
    rw [List.foldl_cons] at h ⊢
    by_cases ha : a.1 ∈ L
    · rw [List.filter_cons_of_pos (by simpa using ha), List.foldl_cons]
      exact wks_same l _ h
    · rw [List.filter_cons_of_neg (by simpa using ha)]
      have hn : wkStep K a = K := by
        unfold wkStep
        rw [if_neg]
        intro hm
        exact ha (h _ ((wkAll_prefix l _).subset ((wkStep_prefix K a).subset hm)))
      rw [hn] at h ⊢
      exact wks_same l K h
theorem weak_same (hpp : ∀ o ∈ L, ps' o = (ps o).filter fun q => decide (q.1 ∈ L)) (K : List Nat) (h : ∀ y ∈ weakP ps K, y ∈ L) : weakP ps' K = weakP ps K := by
  have hK : ∀ y ∈ K, y ∈ L := fun y hy => h y ((wkAll_prefix _ _).subset hy)
  have e : ∀ M : List Nat, (∀ y ∈ M, y ∈ L) → M.flatMap ps' = (M.flatMap ps).filter fun q => decide (q.1 ∈ L) := by
    intro M
    induction M with
    | nil => intro _; rfl
    | cons a M ih =>
      intro hM
      rw [List.flatMap_cons, List.flatMap_cons, List.filter_append, hpp a (hM a (by simp)), ih fun y hy => hM y (by simp [hy])]
  unfold weakP at *
  rw [e K hK]
  exact wks_same _ _ h
theorem liveK_prefix (g : Nat → List Nat) (ps : Nat → List (Nat × Nat)) (N : Nat) : ∀ (f : Nat) (K : List Nat) (p : Nat), K <+: liveK g ps N f K p
  | 0, K, p => List.prefix_refl _
  | f + 1, K, p => by
    unfold liveK
    split
    · exact ((drain_prefix g N K p).trans (wkAll_prefix _ _)).trans (liveK_prefix g ps N f _ _)
    · exact List.prefix_refl _
theorem liveK_same (hgg : ∀ o ∈ L, g' o = g o) (hpp : ∀ o ∈ L, ps' o = (ps o).filter fun q => decide (q.1 ∈ L)) : ∀ (f : Nat) (K : List Nat) (p : Nat), (∀ y ∈ liveK g ps N f K p, y ∈ L) → liveK g' ps' N f K p = liveK g ps N f K p
  | 0, K, p, _ => rfl
  | f + 1, K, p, h => by
    unfold liveK at h ⊢
    by_cases hp : p < K.length
    · rw [if_pos hp] at h ⊢
      rw [if_pos hp]
      have h1 : ∀ y ∈ weakP ps (drain g N K p), y ∈ L := fun y hy => h y ((liveK_prefix g ps N f _ _).subset hy)
      have h2 : ∀ y ∈ drain g N K p, y ∈ L := fun y hy => h1 y ((wkAll_prefix _ _).subset hy)
      rw [drain_same hgg N K p h2, weak_same hpp _ h1]
      exact liveK_same hgg hpp f _ _ h
    · rw [if_neg hp, if_neg hp]
end
end Go.Proofs.YthiiehanlconeaaDoor
namespace Go.Proofs.YthiiehanlconeaaDoor
open Go.RowKit
set_option linter.unusedVariables false
set_option linter.unusedSimpArgs false

section
variable {N : Nat} {g : Nat → List Nat} {ps : Nat → List (Nat × Nat)}
/-- What is found is closed. -/
theorem liveK_closed (hg : ∀ o, o < N → ∀ y ∈ g o, y < N) (hps : ∀ o, o < N → ∀ q ∈ ps o, q.2 < N) : ∀ (f : Nat) (K : List Nat) (p : Nat), N - p ≤ f → p ≤ K.length → Good N K → Seen2 g K p → (p = 0 ∨ ∃ D, K = weakP ps D ∧ p = D.length) → Closed g ps (liveK g ps N f K p) := by
  have fin : ∀ (K : List Nat) (p : Nat), K.length ≤ p → p ≤ K.length → Seen2 g K p → (p = 0 ∨ ∃ D, K = weakP ps D ∧ p = D.length) → Closed g ps K := by
    intro K p h1 h2 hs h0
    rcases h0 with rfl | ⟨D, rfl, rfl⟩
    · have : K = [] := List.eq_nil_of_length_eq_zero (by omega)
      subst this
      exact ⟨(fun o ho => absurd ho (by simp)), (fun o ho => absurd ho (by simp))⟩
    · have hpre : D <+: weakP ps D := wkAll_prefix _ _
      have e : weakP ps D = D := (hpre.eq_of_length (by have := hpre.length_le; omega)).symm
      rw [e] at hs ⊢
      refine ⟨fun o ho y hy => ?_, fun o ho q hq h => ?_⟩
      · obtain ⟨i, hi, rfl⟩ := List.mem_iff_getElem.1 ho
        exact hs i hi hi y hy
      · have : q.2 ∈ weakP ps D := wk_mem (List.mem_flatMap.2 ⟨o, ho, hq⟩) h
        rwa [e] at this
  intro f
  induction f with
  | zero =>
    intro K p hf hp hK hs h0
    have := good_len N K hK
    exact fin K p (by omega) hp hs h0
  | succ f ih =>
    intro K p hf hp hK hs h0
    by_cases h : p < K.length
    · rw [liveK_step h]
      have h1 := drain_closed hg N K p (by omega) hK hs hp
      have h2 : Good N (drain g N K p) := Good.drain hg N p hK
      have h6 := drain_len (g := g) N K p
      have h5 : drain g N K p <+: weakP ps (drain g N K p) := wkAll_prefix _ _
      exact ih _ _ (by omega) h5.length_le (h2.weakP hps) (seen_pre h1 (Nat.le_refl _) h5) (.inr ⟨_, rfl, rfl⟩)
    · unfold liveK
      rw [if_neg h]
      exact fin K p (by omega) hp hs h0
/-- What is found lies in whatever holds its beginning and is closed. -/
theorem addAll_sub {T : Nat → Prop} {K l : List Nat} (hK : ∀ y ∈ K, T y) (hl : ∀ y ∈ l, T y) : ∀ y ∈ addAll K l, T y := by
  induction l generalizing K with
  | nil => exact hK
  | cons a l ih =>
    unfold addAll at *
    rw [List.foldl_cons]
    refine ih (fun y hy => ?_) (fun y hy => hl y (by simp [hy]))
    unfold addN at hy
    split at hy
    · exact hK y hy
    · rcases List.mem_append.1 hy with h | h
      · exact hK y h
      · rw [List.mem_singleton.1 h]; exact hl a (by simp)
theorem drain_sub {T : Nat → Prop} (hgT : ∀ o, T o → ∀ y ∈ g o, T y) : ∀ (f : Nat) (K : List Nat) (p : Nat), (∀ y ∈ K, T y) → ∀ y ∈ drain g f K p, T y
  | 0, K, p, h => h
  | f + 1, K, p, h => by
    by_cases hp : p < K.length
    · rw [drain_some hp]
      exact drain_sub hgT f _ _ (addAll_sub h (hgT _ (h _ (List.getElem_mem hp))))
    · rw [drain_none (by omega)]; exact h
theorem wks_sub {T : Nat → Prop} : ∀ (l : List (Nat × Nat)) (K : List Nat), (∀ q ∈ l, T q.1 → T q.2) → (∀ y ∈ K, T y) → ∀ y ∈ l.foldl wkStep K, T y
  | [], K, _, h => h
  | a :: l, K, hl, h => by
    rw [List.foldl_cons]
    refine wks_sub l _ (fun q hq => hl q (by simp [hq])) (fun y hy => ?_)
    unfold wkStep at hy
    split at hy
    · rename_i hm
      unfold addN at hy
      split at hy
      · exact h y hy
      · rcases List.mem_append.1 hy with q | q
        · exact h y q
        · rw [List.mem_singleton.1 q]; exact hl a (by simp) (h _ hm)
    · exact h y hy
theorem liveK_sub {T : Nat → Prop} (hgT : ∀ o, T o → ∀ y ∈ g o, T y) (hpT : ∀ o, T o → ∀ q ∈ ps o, T q.1 → T q.2) : ∀ (f : Nat) (K : List Nat) (p : Nat), (∀ y ∈ K, T y) → ∀ y ∈ liveK g ps N f K p, T y
  | 0, K, p, h => h
  | f + 1, K, p, h => by
    by_cases hp : p < K.length
    · rw [liveK_step hp]
      have h1 := drain_sub hgT N K p h
      refine liveK_sub hgT hpT f _ _ (wks_sub _ _ (fun q hq => ?_) h1)
      obtain ⟨o, ho, hq⟩ := List.mem_flatMap.1 hq
      exact hpT o (h1 o ho) q hq
    · unfold liveK; rw [if_neg hp]; exact h
theorem Good.liveK' (hg : ∀ o, o < N → ∀ y ∈ g o, y < N) (hps : ∀ o, o < N → ∀ q ∈ ps o, q.2 < N) : ∀ (f : Nat) (K : List Nat) (p : Nat), Good N K → Good N (liveK g ps N f K p)
  | 0, K, p, h => h
  | f + 1, K, p, h => by
    by_cases hp : p < K.length
    · rw [liveK_step hp]; exact Good.liveK' hg hps f _ _ ((Good.drain hg N p h).weakP hps)
    · unfold liveK; rw [if_neg hp]; exact h
end
/-! ### The heap of the law -/
def noW : Int → List Int := fun _ => []
def hW (i : Nat) : Int := handleM 6 6 ((i : Nat) : Int)
def entW (K : List Nat) : List Val := K.flatMap fun k => [refV (hW (13 + k)), refV (hW (14 + k))]
def mapW (K : List Nat) : Obj := { newObj 5 ((newM 6 6).protos.getD 5 0) with data := entW K }
/-- The heap: its own objects, the map with entries, k objects. -/
structure WH (k : Nat) (K : List Nat) (hp : Hp) : Prop where
  base : hp.base = 6
  stride : hp.stride = 6
  len : hp.slots.length = 13 + k
  free : hp.free = []
  live : hp.live = ((13 + k : Nat) : Int)
  prot : hp.protos = (newM 6 6).protos
  used : ∀ i, i < 13 + k → (hp.slots.getD i noSlt).used = true
  old : ∀ i, i < 12 → ∃ p : Int, (hp.slots.getD i noSlt).obj = newObj 0 p ∧ (p = 0 ∨ p = hW 0)
  map : (hp.slots.getD 12 noSlt).obj = mapW K
  rest : ∀ j, j < k → (hp.slots.getD (13 + j) noSlt).obj = newObj 0 (hW 0)
theorem newW_slot {i : Nat} (hi : i < 12) : ∃ p : Int, (newM 6 6).slots.getD i noSlt = ⟨true, newObj 0 p⟩ ∧ (p = 0 ∨ p = hW 0) := by
  rcases Nat.eq_zero_or_pos i with rfl | h
  · exact ⟨0, rfl, .inl rfl⟩
  · obtain ⟨j, rfl⟩ : ∃ j, i = j + 1 := ⟨i - 1, by omega⟩
    refine ⟨hW 0, ?_, .inr rfl⟩
    show (⟨true, newObj 0 0⟩ :: List.replicate 11 (⟨true, newObj 0 (handleM 6 6 0)⟩ : Slt)).getD (j + 1) noSlt = _
    rw [List.getD_cons_succ, List.getD_eq_getElem?_getD, List.getElem?_replicate, if_pos (by omega)]
    rfl
theorem getD_app_lt {l : List Slt} {x : Slt} {i : Nat} (h : i < l.length) : (l ++ [x]).getD i noSlt = l.getD i noSlt := by
  rw [List.getD_eq_getElem?_getD, List.getD_eq_getElem?_getD, List.getElem?_append_left h]
theorem getD_app_eq {l : List Slt} {x : Slt} : (l ++ [x]).getD l.length noSlt = x := by
  rw [List.getD_eq_getElem?_getD, List.getElem?_append_right (Nat.le_refl _), Nat.sub_self]; rfl
theorem wh_begin : WH 0 [] (addedM (newM 6 6) ⟨true, newObj ((5 : Nat) : Int) ((newM 6 6).protos.getD 5 0)⟩) := by
  refine ⟨rfl, rfl, rfl, rfl, rfl, rfl, fun i hi => ?_, fun i hi => ?_, ?_, fun j hj => by omega⟩
  · show (((newM 6 6).slots ++ [_]).getD i noSlt).used = true
    by_cases h : i < 12
    · rw [getD_app_lt (show i < (newM 6 6).slots.length from h)]
      obtain ⟨p, e, -⟩ := newW_slot h
      rw [e]
    · have : i = (newM 6 6).slots.length := by show i = 12; omega
      rw [this, getD_app_eq]
  · have e0 : (addedM (newM 6 6) ⟨true, newObj ((5 : Nat) : Int) ((newM 6 6).protos.getD 5 0)⟩).slots.getD i noSlt = (newM 6 6).slots.getD i noSlt := getD_app_lt (show i < (newM 6 6).slots.length from hi)
    rw [e0]
    obtain ⟨p, e, h⟩ := newW_slot hi
    exact ⟨p, by rw [e], h⟩
  · show (((newM 6 6).slots ++ [_]).getD (newM 6 6).slots.length noSlt).obj = _
    rw [getD_app_eq]; rfl
section
variable {k : Nat} {K : List Nat} {hp : Hp}
theorem WH.more (h : WH k K hp) : WH (k + 1) K (addedM hp ⟨true, newObj ((0 : Nat) : Int) (hp.protos.getD 0 0)⟩) := by
  have hl := h.len
  refine ⟨h.base, h.stride, ?_, h.free, ?_, h.prot, fun i hi => ?_, fun i hi => ?_, ?_, fun j hj => ?_⟩
  · show (hp.slots ++ [_]).length = _
    rw [List.length_append, hl]; rfl
  · show hp.live + 1 = _
    rw [h.live]; omega
  · show ((hp.slots ++ [_]).getD i noSlt).used = true
    by_cases e : i < hp.slots.length
    · rw [getD_app_lt e]; exact h.used i (by omega)
    · have : i = hp.slots.length := by omega
      rw [this, getD_app_eq]
  · have e0 : (addedM hp ⟨true, newObj ((0 : Nat) : Int) (hp.protos.getD 0 0)⟩).slots.getD i noSlt = hp.slots.getD i noSlt := getD_app_lt (by omega)
    rw [e0]; exact h.old i hi
  · show ((hp.slots ++ [_]).getD 12 noSlt).obj = _
    rw [getD_app_lt (by omega)]; exact h.map
  · show ((hp.slots ++ [_]).getD (13 + j) noSlt).obj = _
    by_cases e : j < k
    · rw [getD_app_lt (by omega)]; exact h.rest j e
    · have : 13 + j = hp.slots.length := by omega
      rw [this, getD_app_eq, h.prot]; rfl
theorem WH.put (h : WH k K hp) (K' : List Nat) : WH k K' (putO hp 12 (mapW K')) := by
  have hl : 12 < hp.slots.length := by rw [h.len]; omega
  have e : ∀ j, (putO hp 12 (mapW K')).slots.getD j noSlt = if 12 = j then { hp.slots.getD 12 noSlt with obj := mapW K' } else hp.slots.getD j noSlt := putO_get hl _
  refine ⟨h.base, h.stride, by show (hp.slots.set _ _).length = _; rw [List.length_set]; exact h.len, h.free, h.live, h.prot, fun i hi => ?_, fun i hi => ?_, ?_, fun j hj => ?_⟩
  · rw [e]
    split
    · exact h.used 12 (by omega)
    · exact h.used i hi
  · rw [e, if_neg (by omega)]; exact h.old i hi
  · rw [e, if_pos rfl]
  · rw [e, if_neg (by omega)]; exact h.rest j hj
theorem WH.slot (h : WH k K hp) (hk : k ≤ 100) {i : Nat} (hi : i < 13 + k) : slotOf hp (hW i) = some i := by
  have q := slotOf_handle (hp := hp) (s := i) (by rw [h.len]; exact hi) (h.used i hi) (by rw [h.len]; omega)
  rwa [h.base, h.stride] at q
theorem refs_map (K : List Nat) : refsM (mapW K) = nz [(newM 6 6).protos.getD 5 0] := by
  unfold mapW
  generalize (newM 6 6).protos.getD 5 0 = p
  unfold refsM refsL newObj framesM nz refsV
  by_cases h : p = 0 <;> simp [h]
theorem entW_len : ∀ K : List Nat, (entW K).length = 2 * K.length
  | [] => rfl
  | a :: K => by
    have ih := entW_len K
    unfold entW at ih ⊢
    rw [List.flatMap_cons, List.length_append, ih]; simp; omega
theorem refs_plain (p : Int) : refsM (newObj 0 p) = nz [p] := refsM_new 0 p
theorem WH.g (h : WH k K hp) (hk : k ≤ 100) {o : Nat} (ho : o < 13 + k) : ∀ y ∈ gP hp noW o, y < 12 := by
  intro y hy
  unfold gP noW at hy
  rw [List.append_nil] at hy
  obtain ⟨r, hr, hs⟩ := List.mem_filterMap.1 hy
  have h0 : slotOf hp 0 = none := by
    unfold slotOf indexM
    have q := normB_in hp.base
    rw [if_pos (show (0 : Int) < normB hp.base ∨ _ from .inl (by omega)), if_neg (fun x => by omega)]
  have key : r = 0 ∨ r = hW 0 ∨ r = hW 4 := by
    by_cases e : o < 12
    · obtain ⟨p, eo, hp0⟩ := h.old o e
      rw [eo, refs_plain] at hr
      have : r ∈ [p] := (List.mem_filter.1 hr).1
      rw [List.mem_singleton.1 this]
      rcases hp0 with q | q
      · exact .inl q
      · exact .inr (.inl q)
    · by_cases e2 : o = 12
      · rw [e2, h.map] at hr
        have hr' : r ∈ nz [(newM 6 6).protos.getD 5 0] := by
          have : refsM (mapW K) = nz [(newM 6 6).protos.getD 5 0] := refs_map K
          rwa [this] at hr
        have : r ∈ [(newM 6 6).protos.getD 5 0] := (List.mem_filter.1 hr').1
        rw [List.mem_singleton.1 this]
        exact .inr (.inr rfl)
      · obtain ⟨j, rfl⟩ : ∃ j, o = 13 + j := ⟨o - 13, by omega⟩
        rw [h.rest j (by omega), refs_plain] at hr
        have : r ∈ [hW 0] := (List.mem_filter.1 hr).1
        rw [List.mem_singleton.1 this]
        exact .inr (.inl rfl)
  rcases key with rfl | rfl | rfl
  · rw [h0] at hs; cases hs
  · rw [h.slot hk (by omega)] at hs; cases hs; omega
  · rw [h.slot hk (by omega)] at hs; cases hs; omega
theorem WH.ps (h : WH k K hp) (hk : k ≤ 100) (hK : ∀ q ∈ K, q + 1 < k) {o : Nat} (ho : o < 13 + k) : psP hp o = if o = 12 then K.map fun q => (13 + q, 14 + q) else [] := by
  unfold psP
  by_cases e : o = 12
  · rw [if_pos e, e, h.map, if_pos (show (mapW K).kind = 5 from rfl)]
    show (pairsM (entW K)).filterMap (pairS hp) = _
    unfold entW
    rw [pairs_flat (fun k => refV (hW (13 + k))) (fun k => refV (hW (14 + k)))]
    induction K with
    | nil => rfl
    | cons a K ih => 
      have ha := hK a (by simp)
      have hp1 : pairS hp (refV (hW (13 + a)), refV (hW (14 + a))) = some (13 + a, 14 + a) := by
        unfold pairS
        rw [if_pos ⟨rfl, rfl⟩]
        simp only [refV, h.slot hk (show 13 + a < 13 + k by omega), h.slot hk (show 14 + a < 13 + k by omega)]
      rw [List.map_cons, List.filterMap_cons_some hp1, List.map_cons]
      congr 1
      have : ∀ l : List Nat, (∀ q ∈ l, q + 1 < k) → (l.map fun k => (refV (hW (13 + k)), refV (hW (14 + k)))).filterMap (pairS hp) = l.map fun q => (13 + q, 14 + q) := by
        intro l
        induction l with
        | nil => intro _; rfl
        | cons a l ih =>
          intro hl
          have ha := hl a (by simp)
          have hp1 : pairS hp (refV (hW (13 + a)), refV (hW (14 + a))) = some (13 + a, 14 + a) := by
            unfold pairS
            rw [if_pos ⟨rfl, rfl⟩]
            simp only [refV, h.slot hk (show 13 + a < 13 + k by omega), h.slot hk (show 14 + a < 13 + k by omega)]
          rw [List.map_cons, List.filterMap_cons_some hp1, List.map_cons, ih fun q hq => hl q (by simp [hq])]
      exact this K fun q hq => hK q (by simp [hq])
  · rw [if_neg e]
    by_cases e1 : o < 12
    · obtain ⟨p, eo, -⟩ := h.old o e1
      rw [eo, if_neg (by show ¬ (0 : Int) = 5; omega)]
    · obtain ⟨j, rfl⟩ : ∃ j, o = 13 + j := ⟨o - 13, by omega⟩
      rw [h.rest j (by omega), if_neg (by show ¬ (0 : Int) = 5; omega)]
theorem WH.ok (h : WH k K hp) (hk : k ≤ 100) (hKl : K.length ≤ 100) : HpOk hp := by
  have hin : ∀ i, i ≤ 1000 → InI (hW i) := fun i hi => handle_InI 6 6 (i := i) (by omega)
  have key : ∀ s (hs : s < hp.slots.length), (∃ p : Int, hp.slots[s].obj = newObj 0 p ∧ (p = 0 ∨ p = hW 0)) ∨ hp.slots[s].obj = mapW K := fun s hs => by
    have e0 : hp.slots[s] = hp.slots.getD s noSlt := (getD_get hs).symm
    rw [e0]
    have := h.len
    by_cases e : s < 12
    · exact .inl (h.old s e)
    · by_cases e2 : s = 12
      · rw [e2]; exact .inr h.map
      · obtain ⟨j, rfl⟩ : ∃ j, s = 13 + j := ⟨s - 13, by omega⟩
        exact .inl ⟨_, h.rest j (by omega), .inr rfl⟩
  have hlen := entW_len K
  have hz : InI 0 := ⟨by omega, by omega⟩
  refine ⟨by rw [h.len]; omega, fun s hs => ?_, fun s hs r hr => ?_, fun s hs v hv => ?_⟩
  · rcases key s hs with ⟨p, e, -⟩ | e
    · rw [e]; exact ⟨by simp [newObj], by simp [newObj], by simp [newObj], by simp [newObj], fun f hf => by simp [newObj] at hf⟩
    · rw [e]; exact ⟨by simp [mapW, newObj], by simp [mapW, newObj], by show (entW K).length ≤ 1000; omega, by simp [mapW, newObj], fun f hf => by simp [mapW, newObj] at hf⟩
  · rcases key s hs with ⟨p, e, hp0⟩ | e
    · rw [e, refs_plain] at hr
      have : r ∈ [p] := (List.mem_filter.1 hr).1
      rw [List.mem_singleton.1 this]
      rcases hp0 with rfl | rfl
      · exact hz
      · exact hin 0 (by omega)
    · rw [e] at hr
      have e2 : refsM (mapW K) = nz [(newM 6 6).protos.getD 5 0] := refs_map K
      rw [e2] at hr
      have : r ∈ [(newM 6 6).protos.getD 5 0] := (List.mem_filter.1 hr).1
      rw [List.mem_singleton.1 this]
      exact hin 4 (by omega)
  · rcases key s hs with ⟨p, e, -⟩ | e
    · rw [e] at hv; simp [newObj] at hv
    · rw [e] at hv
      have hv' : v ∈ entW K := hv
      unfold entW at hv'
      obtain ⟨q, hq, hv2⟩ := List.mem_flatMap.1 hv'
      have hI : ∀ i, InI (hW i) := fun i => by
        unfold hW handleM
        split
        · exact hz
        · rename_i hh
          have a1 := normB_in 6
          have e6 : normB 6 = 6 := by decide
          rw [e6]
          constructor <;> omega
      simp only [List.mem_cons, List.not_mem_nil, or_false] at hv2
      rcases hv2 with rfl | rfl
      · exact hI _
      · exact hI _
/-- Alive are the chain's objects from the one that is held. -/
theorem WH.found (h : WH k K hp) (hk : k ≤ 100) (hK : ∀ q ∈ K, q + 1 < k) (hall : ∀ q, q + 1 < k → q ∈ K) {cut : Nat} (hc : cut < k) {i : Nat} (hi : i < k) :
    13 + i ∈ liveM hp noW hp.slots.length hp.slots.length (addsK hp [] [hW 12, hW (13 + cut)]) 0 ↔ cut ≤ i := by
  rw [liveM_eq, addsK_eq]
  have e0 : [hW 12, hW (13 + cut)].filterMap (slotOf hp) = [12, 13 + cut] := by
    rw [List.filterMap_cons_some (h.slot hk (by omega)), List.filterMap_cons_some (h.slot hk (by omega))]; rfl
  rw [e0, h.len]
  have hg : ∀ o, o < 13 + k → ∀ y ∈ gP hp noW o, y < 13 + k := fun o ho y hy => by have := h.g hk ho y hy; omega
  have hps : ∀ o, o < 13 + k → ∀ q ∈ psP hp o, q.2 < 13 + k := fun o ho q hq => by
    rw [h.ps hk hK ho] at hq
    split at hq
    · obtain ⟨a, ha, rfl⟩ := List.mem_map.1 hq
      have := hK a ha
      show 14 + a < _; omega
    · cases hq
  have h0 : addAll [] [12, 13 + cut] = [12, 13 + cut] := by
    show addN (addN [] 12) (13 + cut) = _
    unfold addN
    simp
    omega
  rw [h0]
  have hgd : Good (13 + k) [12, 13 + cut] := ⟨by simp; omega, fun y hy => by simp at hy; omega⟩
  have hcl := liveK_closed hg hps (13 + k) [12, 13 + cut] 0 (by omega) (by omega) hgd (fun i hi h0 => by omega) (.inl rfl)
  have hpre := liveK_prefix (gP hp noW) (psP hp) (13 + k) (13 + k) [12, 13 + cut] 0
  constructor
  · intro hm
    have hT := liveK_sub (g := gP hp noW) (ps := psP hp) (N := 13 + k) (T := fun o => o < 13 ∨ (13 + cut ≤ o ∧ o < 13 + k)) (fun o ho y hy => .inl (by have := h.g hk (by omega) y hy; omega)) (fun o ho q hq h1 => by
      rw [h.ps hk hK (by omega)] at hq
      split at hq
      · obtain ⟨a, ha, rfl⟩ := List.mem_map.1 hq
        have := hK a ha
        have h1' : 13 + a < 13 ∨ (13 + cut ≤ 13 + a ∧ 13 + a < 13 + k) := h1
        exact .inr (by show 13 + cut ≤ 14 + a ∧ 14 + a < 13 + k; omega)
      · cases hq) (13 + k) [12, 13 + cut] 0 (fun y hy => by simp at hy; omega) _ hm
    omega
  · intro hci
    have h12 : 12 ∈ liveK (gP hp noW) (psP hp) (13 + k) (13 + k) [12, 13 + cut] 0 := hpre.subset (by simp)
    have hst : ∀ d, cut + d < k → 13 + (cut + d) ∈ liveK (gP hp noW) (psP hp) (13 + k) (13 + k) [12, 13 + cut] 0 := by
      intro d
      induction d with
      | zero => intro _; exact hpre.subset (by simp)
      | succ d ih =>
        intro hd
        have hq : (13 + (cut + d), 14 + (cut + d)) ∈ psP hp 12 := by
          rw [h.ps hk hK (by omega), if_pos rfl]
          exact List.mem_map.2 ⟨cut + d, hall _ (by omega), rfl⟩
        have := hcl.w 12 h12 _ hq (ih (by omega))
        have e : 14 + (cut + d) = 13 + (cut + (d + 1)) := by omega
        rw [← e]; exact this
    have := hst (i - cut) (by omega)
    rwa [show cut + (i - cut) = i from by omega] at this
theorem WH.none (h : WH k K hp) (hk : k ≤ 100) (hK : ∀ q ∈ K, q + 1 < k) {i : Nat} (hi : i < k) :
    13 + i ∉ liveM hp noW hp.slots.length hp.slots.length (addsK hp [] [hW 12]) 0 := by
  rw [liveM_eq, addsK_eq]
  have e0 : [hW 12].filterMap (slotOf hp) = [12] := by rw [List.filterMap_cons_some (h.slot hk (by omega))]; rfl
  rw [e0, h.len]
  intro hm
  have hT := liveK_sub (g := gP hp noW) (ps := psP hp) (N := 13 + k) (T := fun o => o < 13) (fun o ho y hy => by have := h.g hk (by omega) y hy; omega) (fun o ho q hq h1 => by
    rw [h.ps hk hK (by omega)] at hq
    split at hq
    · obtain ⟨a, ha, rfl⟩ := List.mem_map.1 hq
      have h1' : 13 + a < 13 := h1
      omega
    · cases hq) (13 + k) (addAll [] [12]) 0 (fun y hy => by have : y ∈ [12] := hy; rw [List.mem_singleton.1 this]; omega) _ hm
  omega
/-- A list of slots, as handles. -/
theorem WH.mem (h : WH k K hp) (hk : k ≤ 100) {R : List Nat} (hR : ∀ r ∈ R, r < 13 + k) {i : Nat} (hi : i < 13 + k) : hW i ∈ R.map (fun r => hW r) ↔ i ∈ R := by
  constructor
  · intro hm
    obtain ⟨r, hr, e⟩ := List.mem_map.1 hm
    have h1 := h.slot hk (hR r hr)
    rw [e, h.slot hk hi] at h1
    rw [Option.some.inj h1]; exact hr
  · intro hm; exact List.mem_map.2 ⟨i, hm, rfl⟩
theorem WH.lt (h : WH k K hp) (hk : k ≤ 100) (hK : ∀ q ∈ K, q + 1 < k) {l : List Nat} (hl : Good (13 + k) l) : Good (13 + k) (liveK (gP hp noW) (psP hp) (13 + k) (13 + k) l 0) := by
  have hg : ∀ o, o < 13 + k → ∀ y ∈ gP hp noW o, y < 13 + k := fun o ho y hy => by have := h.g hk ho y hy; omega
  have hps : ∀ o, o < 13 + k → ∀ q ∈ psP hp o, q.2 < 13 + k := fun o ho q hq => by
    rw [h.ps hk hK ho] at hq
    split at hq
    · obtain ⟨a, ha, rfl⟩ := List.mem_map.1 hq
      have := hK a ha
      show 14 + a < _; omega
    · cases hq
  exact Good.liveK' hg hps _ _ _ hl
end
/-- The keys of the map behind the first entries. -/
def addE (K : List Nat) (q : Nat) : List Nat := if q ∈ K then K else K ++ [q]
end Go.Proofs.YthiiehanlconeaaDoor
namespace Go.Proofs.YthiiehanlconeaaDoor
open Go.RowKit
set_option linter.unusedVariables false
set_option linter.unusedSimpArgs false

section
variable {P : Program} {Q : Exit → Act → World → Prop}

def backB (l : List Oper) : Bool := (List.range l.length).all fun i =>
  match l[i]? with
  | some o => (o.after.all fun e => !Region.binds .any e || decide (e.on < i)) && (match o.guard with | some (g, _) => decide (g < i) | none => true)
  | none => true
def cutArr (n m : Nat) : Array Bool := Array.replicate n true ++ Array.replicate m false
def splitB (l : List Oper) (n : Nat) : Bool :=
  decide (n < l.length) && Region.sinkB .any l.toArray n && Region.chainB .any l.toArray n && backB l && Region.seqB .any l.toArray (l.length - n) n (cutArr n (l.length - n))
/-- What is left behind the head. -/
def headPost (P : Program) (l : List Oper) (n : Nat) (Q : Exit → Act → World → Prop) : Exit → Act → World → Prop
  | .normal, a, w => wpList P l.toArray Q (l.drop n) a w
  | .exit i, a, w => Q (.exit i) a w
  | .goto i, a, w => Q (.goto i) a w
  | .ret, a, w => Q .ret a w
  | .panic c, a, w => Q (.panic c) a w
  | .outgrown, a, w => Q .outgrown a w

theorem headPost_wp {l : List Oper} {n : Nat} {o : Oper} {a : Act} {w : World} {K K' : Act → World → Prop} (h : ∀ a w, K a w → K' a w) (hh : o.wp P a w K (headPost P l n Q)) : o.wp P a w K' Q := by
  unfold Oper.wp at *
  generalize (execOp a.eval o).run P w = r at *
  cases r with
  | ok x w' =>
    cases x with
    | enter f args => exact Calls.mono hh (fun e w'' he => by cases e <;> first | exact h _ _ he | exact he)
    | row r args => exact Rows.mono hh (fun _ _ he => h _ _ he)
    | _ => first | exact h _ _ hh | exact hh
  | halt x w' => cases x <;> exact hh

theorem head_at {l : List Oper} {n i : Nat} (hi : i < n) : (l.take n).toArray[i]? = l.toArray[i]? := by
  simp [hi]

theorem backB_spec {l : List Oper} (hB : backB l = true) {i : Nat} {o : Oper} (ho : l.toArray[i]? = some o) :
    (∀ e ∈ o.after, Region.binds .any e = true → e.on < i) ∧ (∀ g b, o.guard = some (g, b) → g < i) := by
  have hl : l[i]? = some o := by simpa using ho
  have hlt : i < l.length := (List.getElem?_eq_some_iff.1 hl).1
  have h := List.all_eq_true.1 hB i (List.mem_range.2 hlt)
  simp only [hl, Bool.and_eq_true] at h
  refine ⟨fun e he hb => ?_, fun g b hg => ?_⟩
  · have h1 := Array.all_eq_true_iff_forall_mem.1 h.1 e he
    simpa [hb] using h1
  · have h2 := h.2
    rw [hg] at h2
    simpa using h2

theorem wanted_head {l : List Oper} {n i : Nat} {o : Oper} (hB : backB l = true) (ho : l.toArray[i]? = some o) (hi : i < n) (t : Array Value) :
    Region.wanted o (yielded (l.take n).toArray t) = Region.wanted o (yielded l.toArray t) := by
  unfold Region.wanted
  cases hg : o.guard with
  | none => rfl
  | some x =>
    obtain ⟨g, b⟩ := x
    have h1 := (backB_spec hB ho).2 g b hg
    simp only
    unfold yielded
    rw [head_at (show g < n by omega)]

theorem wpOp_head {l : List Oper} {n i : Nat} {a : Act} {w : World} {K K' : Act → World → Prop} (hB : backB l = true) (hi : i < n) (h : ∀ a w, K a w → K' a w)
    (hh : wpOp P (l.take n).toArray (headPost P l n Q) i K a w) : wpOp P l.toArray Q i K' a w := by
  unfold wpOp at *
  rw [head_at hi] at hh
  cases ho : l.toArray[i]? with
  | none => simp only [ho] at hh ⊢; exact h _ _ hh
  | some o =>
    simp only [ho] at hh ⊢
    rw [wanted_head hB ho hi] at hh
    by_cases hw : Region.wanted o (yielded l.toArray a.tmps) = true
    · rw [if_pos hw] at hh ⊢
      exact hh.imp (headPost_wp h) id
    · rw [if_neg hw] at hh ⊢
      exact h _ _ hh

theorem getD_both' {x : Array Bool} {i : Nat} (h : i < x.size) : x.getD i true = x.getD i false := by simp [h]

theorem some_ready {l : List Oper} {n : Nat} {x : Array Bool} (hB : backB l = true) (hn : n ≤ l.length) (hx : x.size = n) : ∀ i, i < n → x.getD i true = false → ∃ j, j ∈ Region.ready .any (l.take n).toArray x := by
  intro i
  induction i using Nat.strongRecOn with
  | _ i ih =>
    intro hi hu
    have hl : i < l.length := by omega
    have ho : l.toArray[i]? = some l[i] := by simp [hl]
    by_cases hall : ∀ e ∈ l[i].after, Region.binds .any e = true → x.getD e.on false = true
    · exact ⟨i, mem_ready.2 ⟨hu, l[i], by rw [head_at hi]; exact ho, hall⟩⟩
    · simp only [Classical.not_forall] at hall
      obtain ⟨e, he, hb, hne⟩ := hall
      have hlt := (backB_spec hB ho).1 e he hb
      exact ih e.on hlt (by omega) (by rw [getD_both' (by omega)]; simpa using hne)

theorem wpAny_split {l : List Oper} {n : Nat} (hn : n < l.length) (hs : Region.sinkB .any l.toArray n = true) (hc : Region.chainB .any l.toArray n = true) (hB : backB l = true)
    (hq : Region.seqB .any l.toArray (l.length - n) n (cutArr n (l.length - n)) = true) :
    ∀ (f : Nat) (x y : Array Bool) (a : Act) (w : World), x.size = n → HeadInv .any l.toArray n y → (∀ i, i < n → y.getD i true = x.getD i true) → x.toList.count false = f →
      wpAny P .any (l.take n).toArray (headPost P l n Q) f x a w → wpAny P .any l.toArray Q (f + (l.length - n)) y a w := by
  intro f
  induction f with
  | zero =>
    intro x y a w hx hy hxy hf h
    have hall : ∀ i, i < n → x.getD i true = true := by
      intro i hi
      have h0 := List.count_eq_zero.1 hf
      have hlt : i < x.size := by omega
      rcases hb : x.getD i true with _ | _
      · exact absurd (by have : x[i] = false := by simpa [hlt] using hb
                         rw [← this]; simp) h0
      · rfl
    have hyc : y = cutArr n (l.length - n) := by
      have hys : y.size = l.length := by simpa using hy.size
      refine Array.ext (by simp [cutArr, hys]; omega) fun i h1 h2 => ?_
      by_cases hi : i < n
      · have := hxy i hi
        rw [hall i hi] at this
        have e1 : y[i] = true := by simpa [h1] using this
        rw [e1]
        simp [cutArr, Array.getElem_append, hi]
      · have := hy.tail i (by omega) (by simpa [hys] using h1)
        have e1 : y[i] = false := by simpa [h1] using this
        rw [e1]
        simp [cutArr, Array.getElem_append, hi]
    have hd : (l.drop n).length = l.length - n := by simp
    have := wpAny_of_seq (P := P) (md := .any) (ops := l.toArray) (Q' := Q) (l.drop n) n y a w (fun j => by simp [List.getElem?_drop]) (by rw [hd, hyc]; exact hq) h.2
    rw [hd] at this
    rwa [Nat.zero_add]
  | succ f ih =>
    intro x y a w hx hy hxy hf h
    have hpos : false ∈ x.toList := List.count_pos_iff.1 (by omega)
    obtain ⟨i0, hi0, he0⟩ := List.getElem_of_mem hpos
    have hi0x : i0 < x.size := by simpa using hi0
    have hu0 : x.getD i0 true = false := by simpa [hi0x] using he0
    have hys : y.size = l.length := by simpa using hy.size
    rw [show f + 1 + (l.length - n) = (f + (l.length - n)) + 1 by omega]
    have hsame : ∀ i, i < n → y.getD i false = x.getD i false := fun i hi => by
      rw [← getD_both' (by omega), ← getD_both' (by omega)]; exact hxy i hi
    have hmem : ∀ i, i ∈ Region.ready .any l.toArray y → i < n := by
      intro i hi
      rcases Nat.lt_or_ge i n with h1 | h1
      · exact h1
      · exact absurd hi (tail_waits hs hc (by simpa using hn) hy _ i0 rfl (by omega) (by rw [hxy i0 (by omega)]; exact hu0) i h1)
    refine ⟨fun h0 => ?_, fun i hi => ?_⟩
    · obtain ⟨j, hj⟩ := some_ready hB (by omega) hx i0 (by omega) hu0
      obtain ⟨a1, o, a2, a3⟩ := mem_ready.1 hj
      have hjn : j < n := by
        have := (Array.getElem?_eq_some_iff.1 a2).1
        simp at this; omega
      rw [head_at hjn] at a2
      have : j ∈ Region.ready .any l.toArray y := mem_ready.2 ⟨by rw [hxy j hjn]; exact a1, o, a2, fun e he hb => by
        have := (backB_spec hB a2).1 e he hb
        rw [hsame e.on (by omega)]; exact a3 e he hb⟩
      rw [h0] at this
      cases this
    · have hin := hmem i hi
      obtain ⟨a1, o, a2, a3⟩ := mem_ready.1 hi
      have hih : i ∈ Region.ready .any (l.take n).toArray x := mem_ready.2 ⟨by rw [← hxy i hin]; exact a1, o, by rw [head_at hin]; exact a2, fun e he hb => by
        have := (backB_spec hB a2).1 e he hb
        rw [← hsame e.on (by omega)]; exact a3 e he hb⟩
      refine wpOp_head hB hin (fun a' w' hk => ?_) (h.2 i hih)
      have hxi : x.getD i true = false := by rw [← hxy i hin]; exact a1
      have hil : i < x.toList.length := by simpa [hx] using hin
      refine ih _ _ a' w' (by simpa using hx) (hy.set hi hin) (fun j hj => ?_) ?_ hk
      · by_cases hij : i = j
        · subst hij
          simp [hys, show i < l.length by omega, hx, hin]
        · rw [getD_set_ne true hij, getD_set_ne true hij]; exact hxy j hj
      · have hxe : x.toList[i] = false := by
          have : x[i]'(by omega) = false := by simpa [show i < x.size by omega] using hxi
          simpa using this
        rw [Array.toList_setIfInBounds, List.count_set hil, hxe, hf]
        simp

/-- **The cut.** -/
theorem wp_region_held_split {id : Nat} {a : Act} {w : World} {l : List Oper} (n : Nat) (S : World → Prop) (hm : P.follows .mixedOrders = true) (hB : splitB l n = true) (hS : S w.drew)
    (h : S w.drew → wpAnyH P .any (l.take n).toArray (headPost P l n Q) S n (Array.replicate n false) a w.drew) : (Code.region id l.toArray true).wp P Q a w := by
  simp only [splitB, Bool.and_eq_true, decide_eq_true_eq] at hB
  obtain ⟨⟨⟨⟨hn, hs⟩, hc⟩, hb⟩, hq⟩ := hB
  refine wp_region_any hm ?_
  have inv0 : HeadInv .any l.toArray n (Array.replicate l.toArray.size false) :=
    ⟨by simp, fun j oj _ hl => (by rw [getD_replicate_false] at hl; cases hl), fun t _ ht => getD_in (by simpa using ht) (getD_replicate_false _ _)⟩
  have := wpAny_split hn hs hc hb hq n (Array.replicate n false) (Array.replicate l.toArray.size false) a w.drew (by simp) inv0 (fun i hi => by
    rw [getD_both' (by simp; omega), getD_both' (by simp; omega), getD_replicate_false, getD_replicate_false]) (by simp) (wpAny_of_held _ _ _ _ (h hS))
  have e : n + (l.length - n) = l.toArray.size := by rw [List.size_toArray]; omega
  rw [e] at this
  exact this
end
end Go.Proofs.YthiiehanlconeaaDoor
