/-
  The two graphs, plainly: what the joins leave, phase by phase; the same discovery in both.
  The two graphs, plainly: the whole of both, and the same discovery.
-/
import Derived.Test.YthiiehanlconeaaDoorJoi
import Derived.Test.YthiiehanlconeaaDoorLvb
import Derived.Test.YthiiehanlconeaaDoorAwk
import Derived.Test.YthiiehanlconeaaDoorRlw
namespace Go.Proofs.YthiiehanlconeaaDoor
open Go.RowKit
set_option linter.unusedVariables false
set_option linter.unusedSimpArgs false

/-- The handle of the j-th object of the law's. -/
def hOf (b s : Int) (j : Nat) : Int := handleM b s ((12 + j : Nat) : Int)
theorem hOf_pos (b s : Int) {j : Nat} (h : j ≤ 1000) : hOf b s j ≠ 0 ∧ InI (hOf b s j) := by
  have h1 := handle_in b s (i := 12 + j) (by omega)
  have h2 := normB_in b
  have h3 := normB_in s
  have h4 : 0 ≤ normB s * ((12 + j : Nat) : Int) := Int.mul_nonneg (by omega) (by omega)
  refine ⟨?_, ?_, ?_⟩
  · unfold hOf handleM
    rw [if_neg (by omega)]
    omega
  · unfold hOf; omega
  · unfold hOf; omega
theorem nz_app (a b : List Int) : nz (a ++ b) = nz a ++ nz b := by unfold nz; rw [List.filter_append]
theorem nz_one {h : Int} (h0 : h ≠ 0) : nz [h] = [h] := by unfold nz; simp [h0]
theorem nz_map {h : Nat → Int} {n : Nat} (h0 : ∀ j, j < n → h j ≠ 0) : ∀ (l : List Nat), (∀ y ∈ l, y < n) → nz (l.map h) = l.map h
  | [], _ => rfl
  | a :: l, hl => by
    have e := nz_map h0 l fun y hy => hl y (by simp [hy])
    unfold nz at *
    rw [List.map_cons, List.filter_cons, e, if_pos (by simp [h0 a (hl a (by simp))])]
theorem refsV_app (a b : List Val) : refsV (a ++ b) = refsV a ++ refsV b := by unfold refsV; rw [List.flatMap_append]
theorem refsV_ref (h : Int) : refsV [refV h] = [h] := by unfold refsV refOf refV; simp
theorem framesM_snoc (l : List Frm) {c6 : Nat} {h : Int} (h0 : h ≠ 0) (h6 : c6 < 6) : framesM (l ++ [frameM c6 h]) = framesM l ++ [h] := by
  unfold framesM
  rw [List.flatMap_append, nz_app]
  congr 1
  rcases (show c6 = 0 ∨ c6 = 1 ∨ c6 = 2 ∨ c6 = 3 ∨ c6 = 4 ∨ c6 = 5 by omega) with rfl | rfl | rfl | rfl | rfl | rfl <;>
    simp [frameM, frameRefs, Frm.this, refsV, refOf, refV, nz, h0]
theorem frameM_ok (c6 : Nat) (h : Int) : FrmOk (frameM c6 h) := by
  unfold FrmOk frameM
  refine ⟨?_, ?_, ?_⟩ <;> (dsimp only; split <;> simp)

/-- The order in which the sorts of links are joined. -/
def ordL : List Nat := [4, 0, 1, 2, 3, 5, 6]
/-- The parts of the references, in their order; those of later phases are empty. -/
structure Parts (h : Nat → Int) (p : Nat) (o : Obj) (l s4 s0 s1 s2 s3 s5 : List Nat) : Prop where
  all : l = s4 ++ s0 ++ s1 ++ s2 ++ s3 ++ s5
  e4 : nz [o.proto] = s4.map h
  e0 : o.props.flatMap propRefs = s0.map h
  e1 : refsV o.elems = s1.map h
  e2 : (if o.kind = 5 then [] else refsV o.data) = s2.map h
  e3 : nz [o.env] = s3.map h
  e5 : framesM o.saved = s5.map h
  z0 : p < 1 → s0 = []
  z1 : p < 2 → s1 = []
  z2 : p < 3 → s2 = []
  z3 : p < 4 → s3 = []
  z5 : p < 5 → s5 = []
structure JO (h : Nat → Int) (n p m : Nat) (o : Obj) (x : RObj) : Prop where
  parts : ∃ s4 s0 s1 s2 s3 s5, Parts h p o x.strong s4 s0 s1 s2 s3 s5
  weak : x.weak = decide (o.kind = 5)
  data : x.weak = true → o.data = (x.keys.zip x.vals).flatMap fun q => [refV (h q.1), refV (h q.2)]
  kv : x.keys.length = x.vals.length
  str : ∀ y ∈ x.strong, y < n
  key : ∀ y ∈ x.keys, y < n
  val : ∀ y ∈ x.vals, y < n
  ls : x.strong.length ≤ m
  lk : x.keys.length ≤ m
  lp : o.props.length ≤ m
  le : o.elems.length ≤ m
  ld : o.data.length ≤ 2 * m
  lf : o.saved.length ≤ m
  frm : ∀ f ∈ o.saved, FrmOk f
  dref : ∀ v ∈ o.data, InI v.ref
theorem JO.more {h : Nat → Int} {n p m p' m' : Nat} {o : Obj} {x : RObj} (J : JO h n p m o x) (hp : p ≤ p') (hm : m ≤ m') : JO h n p' m' o x := by
  obtain ⟨⟨s4, s0, s1, s2, s3, s5, P⟩, a2, a3, a4, a5, a6, a7, b1, b2, b3, b4, b5, b6, b7, b8⟩ := J
  exact ⟨⟨s4, s0, s1, s2, s3, s5, P.all, P.e4, P.e0, P.e1, P.e2, P.e3, P.e5, fun q => P.z0 (by omega), fun q => P.z1 (by omega), fun q => P.z2 (by omega), fun q => P.z3 (by omega), fun q => P.z5 (by omega)⟩, a2, a3, a4, a5, a6, a7, by omega, by omega, by omega, by omega, by omega, by omega, b7, b8⟩
theorem JO.init {h : Nat → Int} {n k : Nat} : JO h n 0 0 (newObj (k : Int) 0) ⟨decide ((k : Int) = 5), [], [], []⟩ :=
  ⟨⟨[], [], [], [], [], [], rfl, by simp [newObj, nz], rfl, rfl, by simp [newObj, refsV], by simp [newObj, nz], rfl, fun _ => rfl, fun _ => rfl, fun _ => rfl, fun _ => rfl, fun _ => rfl⟩, rfl, fun _ => rfl, rfl, by simp, by simp, by simp, by simp, by simp, by simp [newObj], by simp [newObj], by simp [newObj], by simp [newObj], by simp [newObj], by simp [newObj]⟩
theorem JO.refs {h : Nat → Int} {n p m : Nat} {o : Obj} {x : RObj} (J : JO h n p m o x) (h0 : ∀ j, j < n → h j ≠ 0) : refsM o = x.strong.map h := by
  obtain ⟨s4, s0, s1, s2, s3, s5, P⟩ := J.parts
  have hs := J.str
  rw [P.all] at hs ⊢
  have hz : ∀ l : List Nat, (∀ y ∈ l, y ∈ s4 ++ s0 ++ s1 ++ s2 ++ s3 ++ s5) → nz (l.map h) = l.map h := fun l hl => nz_map h0 l fun y hy => hs y (hl y hy)
  have h5 : nz (framesM o.saved) = s5.map h := by rw [P.e5]; exact hz _ (by simp_all)
  unfold refsM refsL
  rw [nz_app, nz_app, nz_app, nz_app, nz_app, P.e4, P.e0, P.e1, P.e2, P.e3, h5, hz s0 (by intro y hy; simp [hy]), hz s1 (by intro y hy; simp [hy]), hz s2 (by intro y hy; simp [hy])]
  simp only [List.map_append]
theorem nz_zero {a : Int} {l : List Nat} {h : Nat → Int} (e : nz [a] = l.map h) (ha : a = 0) : l = [] := by
  subst ha
  have : nz [0] = [] := rfl
  rw [this] at e
  exact List.map_eq_nil_iff.1 e.symm
section
variable {h : Nat → Int} {n p m c6 b c : Nat} {o y : Obj} {x : RObj} {key : ByteArray}
/-- One link joined. -/
theorem JO.join (J : JO h n p m o x) (h0 : ∀ j, j < n → h j ≠ 0 ∧ InI (h j)) (hb : b < n) (hc : c < n) (h6 : c6 < 6) (hp7 : p < 7) (hr : joinO (ordL.getD p 0) c6 x.weak (decide (c ∈ x.keys)) key (h b) (h c) o = some y) :
    JO h n p (m + 1) y (joinX (ordL.getD p 0) b c x) := by
  obtain ⟨⟨s4, s0, s1, s2, s3, s5, P⟩, a2, a3, a4, a5, a6, a7, b1, b2, b3, b4, b5, b6, b7, b8⟩ := J
  obtain ⟨w, st, ks, vs⟩ := x
  obtain ⟨kind, proto, props, elems, data, code, env, cls, ref, saved⟩ := o
  dsimp only at *
  obtain ⟨hb0, hbi⟩ := h0 b hb
  obtain ⟨hc0, hci⟩ := h0 c hc
  rcases (show p = 0 ∨ p = 1 ∨ p = 2 ∨ p = 3 ∨ p = 4 ∨ p = 5 ∨ p = 6 by omega) with rfl | rfl | rfl | rfl | rfl | rfl | rfl
  · -- the prototype
    simp only [ordL, List.getD_cons_zero, joinO, joinX] at hr ⊢
    rw [if_pos (by omega)]
    simp at hr
    obtain ⟨he, rfl⟩ := hr
    have e4 := nz_zero P.e4 he
    have e0 := P.z0 (by omega)
    have e1 := P.z1 (by omega)
    have e2 := P.z2 (by omega)
    have e3 := P.z3 (by omega)
    have e5 := P.z5 (by omega)
    subst e4 e0 e1 e2 e3 e5
    have hst : st = [] := P.all
    subst hst
    refine ⟨⟨[b], [], [], [], [], [], ⟨rfl, nz_one hb0, P.e0, P.e1, P.e2, P.e3, P.e5, fun _ => rfl, fun _ => rfl, fun _ => rfl, fun _ => rfl, fun _ => rfl⟩⟩, a2, a3, a4, ?_, a6, a7, ?_, Nat.le_trans b2 (by omega), Nat.le_trans b3 (by omega), Nat.le_trans b4 (by omega), Nat.le_trans b5 (by omega), Nat.le_trans b6 (by omega), b7, b8⟩
    · intro y hy
      simp at hy
      omega
    · simp
  · -- a property
    simp only [ordL, List.getD_cons_zero, List.getD_cons_succ, joinO, joinX] at hr ⊢
    rw [if_pos (by omega)]
    simp at hr
    subst hr
    have e1 := P.z1 (by omega)
    have e2 := P.z2 (by omega)
    have e3 := P.z3 (by omega)
    have e5 := P.z5 (by omega)
    subst e1 e2 e3 e5
    refine ⟨⟨s4, s0 ++ [b], [], [], [], [], ⟨?_, P.e4, ?_, P.e1, P.e2, P.e3, P.e5, fun q => absurd q (by omega), fun _ => rfl, fun _ => rfl, fun _ => rfl, fun _ => rfl⟩⟩, a2, a3, a4, ?_, a6, a7, ?_, Nat.le_trans b2 (by omega), ?_, Nat.le_trans b4 (by omega), Nat.le_trans b5 (by omega), Nat.le_trans b6 (by omega), b7, b8⟩
    · dsimp only; rw [P.all]; simp
    · dsimp only
      rw [List.flatMap_append, P.e0, List.map_append]
      rfl
    · intro y hy
      rcases List.mem_append.1 hy with q | q
      · exact a5 y q
      · rw [List.mem_singleton.1 q]; exact hb
    · dsimp only; rw [List.length_append]; simp; omega
    · rw [List.length_append]; simp; omega
  · -- an element
    simp only [ordL, List.getD_cons_zero, List.getD_cons_succ, joinO, joinX] at hr ⊢
    rw [if_pos (by omega)]
    simp at hr
    subst hr
    have e2 := P.z2 (by omega)
    have e3 := P.z3 (by omega)
    have e5 := P.z5 (by omega)
    subst e2 e3 e5
    refine ⟨⟨s4, s0, s1 ++ [b], [], [], [], ⟨?_, P.e4, P.e0, ?_, P.e2, P.e3, P.e5, fun q => absurd q (by omega), fun q => absurd q (by omega), fun _ => rfl, fun _ => rfl, fun _ => rfl⟩⟩, a2, a3, a4, ?_, a6, a7, ?_, Nat.le_trans b2 (by omega), Nat.le_trans b3 (by omega), ?_, Nat.le_trans b5 (by omega), Nat.le_trans b6 (by omega), b7, b8⟩
    · dsimp only; rw [P.all]; simp
    · dsimp only
      rw [refsV_app, P.e1, List.map_append, refsV_ref]
      rfl
    · intro y hy
      rcases List.mem_append.1 hy with q | q
      · exact a5 y q
      · rw [List.mem_singleton.1 q]; exact hb
    · dsimp only; rw [List.length_append]; simp; omega
    · rw [List.length_append]; simp; omega
  · -- data
    simp only [ordL, List.getD_cons_zero, List.getD_cons_succ, joinO, joinX] at hr ⊢
    rw [if_pos (by omega)]
    simp at hr
    obtain ⟨he, rfl⟩ := hr
    have hk : ¬ kind = 5 := fun q => by rw [he] at a2; simp [q] at a2
    have e3 := P.z3 (by omega)
    have e5 := P.z5 (by omega)
    subst e3 e5
    have q2 := P.e2
    dsimp only at q2
    rw [if_neg hk] at q2
    refine ⟨⟨s4, s0, s1, s2 ++ [b], [], [], ⟨?_, P.e4, P.e0, P.e1, ?_, P.e3, P.e5, fun q => absurd q (by omega), fun q => absurd q (by omega), fun q => absurd q (by omega), fun _ => rfl, fun _ => rfl⟩⟩, ?_, ?_, a4, ?_, a6, a7, ?_, Nat.le_trans b2 (by omega), Nat.le_trans b3 (by omega), Nat.le_trans b4 (by omega), ?_, Nat.le_trans b6 (by omega), b7, ?_⟩
    · dsimp only; rw [P.all]; simp
    · dsimp only
      rw [if_neg hk, refsV_app, q2, List.map_append, refsV_ref]
      rfl
    · exact a2
    · intro q; rw [he] at q; cases q
    · intro y hy
      rcases List.mem_append.1 hy with q | q
      · exact a5 y q
      · rw [List.mem_singleton.1 q]; exact hb
    · dsimp only; rw [List.length_append]; simp; omega
    · rw [List.length_append]; simp; omega
    · intro v hv
      rcases List.mem_append.1 hv with q | q
      · exact b8 v q
      · rw [List.mem_singleton.1 q]; exact hbi
  · -- the environment
    simp only [ordL, List.getD_cons_zero, List.getD_cons_succ, joinO, joinX] at hr ⊢
    rw [if_pos (by omega)]
    simp at hr
    obtain ⟨he, rfl⟩ := hr
    have e3 := nz_zero P.e3 he
    have e5 := P.z5 (by omega)
    subst e3 e5
    refine ⟨⟨s4, s0, s1, s2, [b], [], ⟨?_, P.e4, P.e0, P.e1, P.e2, nz_one hb0, P.e5, fun q => absurd q (by omega), fun q => absurd q (by omega), fun q => absurd q (by omega), fun q => absurd q (by omega), fun _ => rfl⟩⟩, a2, a3, a4, ?_, a6, a7, ?_, Nat.le_trans b2 (by omega), Nat.le_trans b3 (by omega), Nat.le_trans b4 (by omega), Nat.le_trans b5 (by omega), Nat.le_trans b6 (by omega), b7, b8⟩
    · dsimp only; rw [P.all]; simp
    · intro y hy
      rcases List.mem_append.1 hy with q | q
      · exact a5 y q
      · rw [List.mem_singleton.1 q]; exact hb
    · dsimp only; rw [List.length_append]; simp; omega
  · -- a saved frame
    simp only [ordL, List.getD_cons_zero, List.getD_cons_succ, joinO, joinX] at hr ⊢
    rw [if_pos (by omega)]
    simp at hr
    subst hr
    refine ⟨⟨s4, s0, s1, s2, s3, s5 ++ [b], ⟨?_, P.e4, P.e0, P.e1, P.e2, P.e3, ?_, fun q => absurd q (by omega), fun q => absurd q (by omega), fun q => absurd q (by omega), fun q => absurd q (by omega), fun q => absurd q (by omega)⟩⟩, a2, a3, a4, ?_, a6, a7, ?_, Nat.le_trans b2 (by omega), Nat.le_trans b3 (by omega), Nat.le_trans b4 (by omega), Nat.le_trans b5 (by omega), ?_, ?_, b8⟩
    · dsimp only; rw [P.all]; simp
    · dsimp only
      rw [framesM_snoc _ hb0 h6, P.e5, List.map_append]
      rfl
    · intro y hy
      rcases List.mem_append.1 hy with q | q
      · exact a5 y q
      · rw [List.mem_singleton.1 q]; exact hb
    · dsimp only; rw [List.length_append]; simp; omega
    · rw [List.length_append]; simp; omega
    · intro f hf
      rcases List.mem_append.1 hf with q | q
      · exact b7 f q
      · rw [List.mem_singleton.1 q]; exact frameM_ok _ _
  · -- a weak entry
    simp only [ordL, List.getD_cons_zero, List.getD_cons_succ, joinO, joinX] at hr ⊢
    rw [if_neg (by omega)]
    simp at hr
    obtain ⟨⟨he, hm⟩, rfl⟩ := hr
    have hk : kind = 5 := by rw [he] at a2; simpa using a2.symm
    refine ⟨⟨s4, s0, s1, s2, s3, s5, ⟨P.all, P.e4, P.e0, P.e1, ?_, P.e3, P.e5, fun q => absurd q (by omega), fun q => absurd q (by omega), fun q => absurd q (by omega), fun q => absurd q (by omega), fun q => absurd q (by omega)⟩⟩, a2, ?_, ?_, a5, ?_, ?_, Nat.le_trans b1 (by omega), ?_, Nat.le_trans b3 (by omega), Nat.le_trans b4 (by omega), ?_, Nat.le_trans b6 (by omega), b7, ?_⟩
    · have q2 := P.e2
      dsimp only at q2 ⊢
      rw [if_pos hk] at q2 ⊢
      exact q2
    · intro _
      rw [List.zip_append a4, List.flatMap_append, a3 he]
      rfl
    · simp [a4]
    · intro y hy
      simp at hy
      rcases hy with q | q
      · exact a6 y q
      · omega
    · intro y hy
      simp at hy
      rcases hy with q | q
      · exact a7 y q
      · omega
    · simp; omega
    · rw [List.length_append]; simp; omega
    · intro v hv
      rcases List.mem_append.1 hv with q | q
      · exact b8 v q
      · simp at q
        rcases q with rfl | rfl
        · exact hci
        · exact hbi
end
end Go.Proofs.YthiiehanlconeaaDoor
namespace Go.Proofs.YthiiehanlconeaaDoor
open Go.RowKit
set_option linter.unusedVariables false
set_option linter.unusedSimpArgs false

/-- Both graphs, as m joins up to phase p leave them. -/
structure GI (n : Nat) (b s : Int) (L : List Int) (hp : Hp) (xs : List RObj) (p m : Nat) : Prop where
  ok : GOk n L hp xs
  base : hp.base = b
  stride : hp.stride = s
  jo : ∀ j, j < n → JO (hOf b s) n p m (hp.slots.getD (12 + j) noSlt).obj (xs.getD j noR)
  old : ∀ i, i < 12 → hp.slots.getD i noSlt = (newM b s).slots.getD i noSlt
  sys : hp.global = (newM b s).global ∧ hp.texts = (newM b s).texts ∧ hp.protos = (newM b s).protos ∧ hp.free = [] ∧ hp.live = ((12 + n : Nat) : Int)
theorem getD_map_range {β : Type} (f : Nat → β) (d : β) {n j : Nat} (h : j < n) : ((List.range n).map f).getD j d = f j := by
  rw [List.getD_eq_getElem?_getD, List.getElem?_map, List.getElem?_range h]; rfl
theorem putO_get {hp : Hp} {i : Nat} (hi : i < hp.slots.length) (o : Obj) (j : Nat) : (putO hp i o).slots.getD j noSlt = if i = j then { hp.slots.getD i noSlt with obj := o } else hp.slots.getD j noSlt := by
  show (hp.slots.set i { hp.slots.getD i noSlt with obj := o }).getD j noSlt = _
  rw [List.getD_eq_getElem?_getD, List.getElem?_set]
  by_cases e : i = j
  · rw [if_pos e, if_pos e, if_pos hi]; rfl
  · rw [if_neg e, if_neg e, List.getD_eq_getElem?_getD]
theorem setD_get {α : Type} {l : List α} {i : Nat} (hi : i < l.length) (x d : α) (j : Nat) : (l.set i x).getD j d = if i = j then x else l.getD j d := by
  rw [List.getD_eq_getElem?_getD, List.getElem?_set]
  by_cases e : i = j
  · rw [if_pos e, if_pos e, if_pos hi]; rfl
  · rw [if_neg e, if_neg e, List.getD_eq_getElem?_getD]
section
variable {n p m : Nat} {b s : Int} {L : List Int} {hp : Hp} {xs : List RObj}
theorem GI.handle (G : GI n b s L hp xs p m) {j : Nat} (h : j < n) : L.getD j 0 = hOf b s j := by
  rw [G.ok.L, G.base, G.stride, getD_map_range _ _ h]; rfl
theorem GI.pos (G : GI n b s L hp xs p m) : ∀ j, j < n → hOf b s j ≠ 0 ∧ InI (hOf b s j) := fun j hj => hOf_pos b s (by have := G.ok.few; omega)
theorem GI.more (G : GI n b s L hp xs p m) {p' m' : Nat} (h1 : p ≤ p') (h2 : m ≤ m') : GI n b s L hp xs p' m' := ⟨G.ok, G.base, G.stride, fun j hj => (G.jo j hj).more h1 h2, G.old, G.sys⟩
theorem GOk.put (ok : GOk n L hp xs) {a : Nat} (ha : a < n) (o : Obj) (x : RObj) : GOk n L (putO hp (12 + a) o) (xs.set a x) := by
  have hl : 12 + a < hp.slots.length := by rw [ok.slots]; omega
  refine ⟨ok.pos, ok.few, ok.L, by rw [List.length_set]; exact ok.xs, by show (hp.slots.set _ _).length = _; rw [List.length_set]; exact ok.slots, fun s hs => ?_⟩
  have hs' : s < hp.slots.length := by have h2 : s < (hp.slots.set (12 + a) { hp.slots.getD (12 + a) noSlt with obj := o }).length := hs; rwa [List.length_set] at h2
  have e := putO_get hl o s
  rw [getD_get hs] at e
  rw [e]
  by_cases q : 12 + a = s
  · rw [if_pos q, getD_get hl]; exact ok.used _ hl
  · rw [if_neg q, getD_get hs']; exact ok.used _ hs'
theorem GI.join (G : GI n b s L hp xs p m) (hp7 : p < 7) {k : Lk} (hr : k.sort % 7 = ordL.getD p 0) (key : ByteArray) : GI n b s L (joinM key n L hp xs k).1 (joinM key n L hp xs k).2 p (m + 1) := by
  have ha : k.frm % n < n := Nat.mod_lt _ G.ok.pos
  have hb : k.to_ % n < n := Nat.mod_lt _ G.ok.pos
  have hc : k.by_ % n < n := Nat.mod_lt _ G.ok.pos
  have hl : 12 + k.frm % n < hp.slots.length := by rw [G.ok.slots]; omega
  have hx : k.frm % n < xs.length := by rw [G.ok.xs]; exact ha
  unfold joinM
  rw [G.handle hb, G.handle hc, hr]
  generalize hj : joinO (ordL.getD p 0) (k.by_ % 6) (xs.getD (k.frm % n) noR).weak (decide (k.by_ % n ∈ (xs.getD (k.frm % n) noR).keys)) key (hOf b s (k.to_ % n)) (hOf b s (k.by_ % n)) (hp.slots.getD (12 + k.frm % n) noSlt).obj = r
  cases r with
  | none => exact G.more (Nat.le_refl _) (by omega)
  | some o =>
    dsimp only
    refine ⟨G.ok.put ha _ _, G.base, G.stride, fun j hj' => ?_, fun i hi => ?_, G.sys⟩
    · rw [putO_get hl, setD_get hx]
      by_cases e : k.frm % n = j
      · rw [if_pos (by omega), if_pos e]
        exact (G.jo _ ha).join G.pos hb hc (Nat.mod_lt _ (by omega)) hp7 hj
      · rw [if_neg (by omega), if_neg e]
        exact (G.jo j hj').more (Nat.le_refl _) (by omega)
    · rw [putO_get hl, if_neg (by omega)]
      exact G.old i hi
theorem GI.hpOk (G : GI n b s L hp xs p m) (hm : m ≤ 500) : HpOk hp := by
  have key : ∀ i (hi : i < hp.slots.length), (i < 12 ∧ ∃ k q : Int, hp.slots[i].obj = newObj k q ∧ InI q) ∨ ∃ j, j < n ∧ i = 12 + j ∧ hp.slots[i].obj = (hp.slots.getD (12 + j) noSlt).obj := fun i hi => by
    by_cases h : i < 12
    · have e := G.old i h
      have hl : i < (newM b s).slots.length := h
      rw [getD_get hi, getD_get hl] at e
      obtain ⟨k, q, e2, hq⟩ := (newM_fresh b s _ (List.getElem_mem hl)).ex
      exact .inl ⟨h, k, q, by rw [e, e2], hq⟩
    · refine .inr ⟨i - 12, by rw [G.ok.slots] at hi; omega, by omega, ?_⟩
      rw [show 12 + (i - 12) = i from by omega, getD_get hi]
  refine ⟨by rw [G.ok.slots]; have := G.ok.few; omega, fun i hi => ?_, fun i hi r hr => ?_, fun i hi v hv => ?_⟩
  · rcases key i hi with ⟨-, k, q, e, -⟩ | ⟨j, hj, rfl, e⟩
    · rw [e]; exact ⟨by simp [newObj], by simp [newObj], by simp [newObj], by simp [newObj], fun f hf => by simp [newObj] at hf⟩
    · have J := G.jo j hj
      rw [e]
      exact ⟨by have := J.lp; omega, by have := J.le; omega, by have := J.ld; omega, by have := J.lf; omega, J.frm⟩
  · rcases key i hi with ⟨-, k, q, e, hq⟩ | ⟨j, hj, rfl, e⟩
    · rw [e, refsM_new] at hr
      have : r ∈ [q] := (List.mem_filter.1 hr).1
      rw [List.mem_singleton.1 this]; exact hq
    · have J := G.jo j hj
      rw [e, J.refs fun j hj => (G.pos j hj).1] at hr
      obtain ⟨y, hy, rfl⟩ := List.mem_map.1 hr
      exact (G.pos y (J.str y hy)).2
  · rcases key i hi with ⟨-, k, q, e, hq⟩ | ⟨j, hj, rfl, e⟩
    · rw [e] at hv
      simp [newObj] at hv
    · rw [e] at hv
      exact (G.jo j hj).dref v hv
theorem GI.xOk (G : GI n b s L hp xs p m) (hm : m ≤ 500) {more : List (List Nat)} (h1 : ∀ l ∈ more, ∀ y ∈ l, y < n) (h2 : ∀ l ∈ more, l.length ≤ 100000) (h3 : more.length ≤ 100000) : XOk n xs more := by
  have key : ∀ x ∈ xs, ∃ j, ∃ o, JO (hOf b s) n p m o x := fun x hx => by
    obtain ⟨j, hj, rfl⟩ := List.mem_iff_getElem.1 hx
    have J := G.jo j (by rw [← G.ok.xs]; exact hj)
    rw [getD_get hj] at J
    exact ⟨j, _, J⟩
  refine ⟨G.ok.xs, fun x hx => ?_, fun x hx => ?_, fun x hx => ?_, h1, G.ok.few, fun x hx => ?_, fun x hx => ?_, h2, h3⟩ <;> obtain ⟨j, o, J⟩ := key x hx
  · exact J.str
  · exact J.val
  · exact J.kv
  · have := J.ls; omega
  · have := J.lk; omega
theorem GI.lens (G : GI n b s L hp xs p m) (hm : m ≤ 500) : ∀ x ∈ xs, x.strong.length ≤ 1000 ∧ x.keys.length ≤ 1000 ∧ x.vals.length ≤ 1000 := fun x hx => by
  obtain ⟨j, hj, rfl⟩ := List.mem_iff_getElem.1 hx
  have J := G.jo j (by rw [← G.ok.xs]; exact hj)
  rw [getD_get hj] at J
  have h1 := J.ls
  have h2 := J.lk
  have h3 := J.kv
  omega
end

/-! ### The program's discovery, told by slots -/
def gP (hp : Hp) (em : Int → List Int) (i : Nat) : List Nat := (refsM (hp.slots.getD i noSlt).obj ++ em (handleM hp.base hp.stride (i : Nat))).filterMap (slotOf hp)
def pairS (hp : Hp) (q : Val × Val) : Option (Nat × Nat) :=
  if q.2.kind = 5 ∧ q.1.kind = 5 then (match slotOf hp q.1.ref, slotOf hp q.2.ref with
    | some a, some c => some (a, c)
    | _, _ => none) else none
def psP (hp : Hp) (i : Nat) : List (Nat × Nat) := if (hp.slots.getD i noSlt).obj.kind = 5 then (pairsM (hp.slots.getD i noSlt).obj.data).filterMap (pairS hp) else []
section
variable {hp : Hp} {em : Int → List Int}
theorem addsK_eq : ∀ (hs : List Int) (K : List Nat), addsK hp K hs = addAll K (hs.filterMap (slotOf hp))
  | [], K => rfl
  | a :: l, K => by
    have ih := addsK_eq l (addK hp K a)
    unfold addsK at ih ⊢
    rw [List.foldl_cons, ih]
    unfold addK
    cases h : slotOf hp a with
    | none => rw [List.filterMap_cons_none h]
    | some i => rw [List.filterMap_cons_some h]; unfold addAll; rw [List.foldl_cons]
theorem wkV_eq (K : List Nat) (q : Val × Val) : wkV hp K q = match pairS hp q with
    | some r => wkStep K r
    | none => K := by
  unfold wkV pairS hasK addK wkStep
  by_cases h : q.2.kind = 5 ∧ q.1.kind = 5
  · cases h1 : slotOf hp q.1.ref <;> cases h2 : slotOf hp q.2.ref <;> simp [h]
  · rw [if_neg h]
    simp only
    rw [if_neg (fun x => h ⟨x.1, x.2.1⟩)]
theorem wkVs_eq : ∀ (l : List (Val × Val)) (K : List Nat), l.foldl (wkV hp) K = (l.filterMap (pairS hp)).foldl wkStep K
  | [], K => rfl
  | a :: l, K => by
    rw [List.foldl_cons, wkVs_eq l, wkV_eq]
    cases h : pairS hp a with
    | none => rw [List.filterMap_cons_none h]
    | some i => rw [List.filterMap_cons_some h, List.foldl_cons]
theorem weakS_eq (K : List Nat) (i : Nat) : weakS hp K i = (psP hp i).foldl wkStep K := by
  unfold weakS weakObj psP
  split
  · exact wkVs_eq _ _
  · rfl
theorem weakM_eq (K : List Nat) : weakM hp K = weakP (psP hp) K := by
  have : ∀ l K0 : List Nat, l.foldl (weakS hp) K0 = (l.flatMap (psP hp)).foldl wkStep K0 := by
    intro l
    induction l with
    | nil => intro K0; rfl
    | cons a l ih => intro K0; rw [List.foldl_cons, ih, weakS_eq, List.flatMap_cons, List.foldl_append]
  exact this K K
theorem procK_eq (K : List Nat) (i : Nat) : procK hp em K i = addAll K (gP hp em i) := by
  unfold procK gP
  rw [addsK_eq, addsK_eq, List.filterMap_append, addAll_append]
theorem drainM_eq : ∀ (f : Nat) (K : List Nat) (p : Nat), drainM hp em f K p = drain (gP hp em) f K p
  | 0, K, p => rfl
  | f + 1, K, p => by
    cases h : K[p]? with
    | none => simp only [drainM, drain, h]
    | some i => simp only [drainM, drain, h]; rw [procK_eq, drainM_eq f]
theorem liveM_eq (N : Nat) : ∀ (f : Nat) (K : List Nat) (p : Nat), liveM hp em N f K p = liveK (gP hp em) (psP hp) N f K p
  | 0, K, p => rfl
  | f + 1, K, p => by
    simp only [liveM, liveK]
    rw [drainM_eq, weakM_eq, liveM_eq N f]
end
theorem pairs_flat {α : Type} (f g : α → Val) : ∀ l : List α, pairsM (l.flatMap fun q => [f q, g q]) = l.map fun q => (f q, g q)
  | [] => by simp [pairsM]
  | a :: l => by
    have ih := pairs_flat f g l
    unfold pairsM at ih ⊢
    rw [List.flatMap_cons]
    generalize (l.flatMap fun q => [f q, g q]) = d at *
    rw [show ([f a, g a] ++ d).length / 2 = d.length / 2 + 1 from by simp; omega, List.range_succ_eq_map, List.map_cons, List.map_map, List.map_cons, ← ih]
    rfl
theorem Good.liveR {N : Nat} {g : Nat → List Nat} {ps : Nat → List (Nat × Nat)} (hg : ∀ o, o < N → ∀ y ∈ g o, y < N) (hps : ∀ o, o < N → ∀ p ∈ ps o, p.2 < N) : ∀ (f : Nat) {K : List Nat} (p : Nat), Good N K → Good N (liveR g ps N f K p)
  | 0, K, p, h => h
  | f + 1, K, p, h => by
    have h2 := (Good.drain hg N p h).weakP hps
    rw [liveR_step]
    split
    · exact h2
    · exact Good.liveR hg hps f _ h2
section
variable {n p m : Nat} {b s : Int} {L : List Int} {hp : Hp} {xs : List RObj} {em : Int → List Int} {more : List (List Nat)}
theorem GI.slot (G : GI n b s L hp xs p m) {j : Nat} (h : j < n) : slotOf hp (hOf b s j) = some (12 + j) := by
  have hs : 12 + j < hp.slots.length := by rw [G.ok.slots]; omega
  have := slotOf_handle hs (by rw [getD_get hs]; exact G.ok.used _ hs) (by rw [G.ok.slots]; have := G.ok.few; omega)
  rwa [G.base, G.stride] at this
theorem GI.slots (G : GI n b s L hp xs p m) : ∀ l : List Nat, (∀ y ∈ l, y < n) → (l.map (hOf b s)).filterMap (slotOf hp) = l.map (12 + ·)
  | [], _ => rfl
  | a :: l, h => by rw [List.map_cons, List.filterMap_cons_some (G.slot (h a (by simp))), GI.slots G l fun y hy => h y (by simp [hy]), List.map_cons]
theorem GI.emb (G : GI n b s L hp xs p m) (hem : ∀ j, j < n → em (hOf b s j) = (more.getD j []).map (hOf b s)) (hmore : ∀ j, ∀ y ∈ more.getD j [], y < n) : Emb 12 n [] (gR xs more) (gP hp em) (psR xs) (psP hp) := by
  refine ⟨Good.nil 12, fun _ h => (by cases h), fun _ h => (by cases h), fun j hj => ?_, fun j hj => ?_, fun j hj y hy => ?_, fun j hj q hq => ?_⟩
  · have J := G.jo j hj
    unfold gP gR
    rw [J.refs fun j hj => (G.pos j hj).1, G.base, G.stride, show handleM b s ((12 + j : Nat) : Int) = hOf b s j from rfl, hem j hj, ← List.map_append, G.slots]
    intro y hy
    rcases List.mem_append.1 hy with h | h
    · exact J.str y h
    · exact hmore j y h
  · have J := G.jo j hj
    unfold psP psR
    generalize (hp.slots.getD (12 + j) noSlt).obj = o at *
    generalize xs.getD j noR = x at *
    have hw := J.weak
    by_cases hk : o.kind = 5
    · rw [if_pos hk, if_pos (by rw [hw]; simp [hk]), J.data (by rw [hw]; simp [hk])]
      rw [pairs_flat (fun q : Nat × Nat => refV (hOf b s q.1)) (fun q => refV (hOf b s q.2))]
      have : ∀ l : List (Nat × Nat), (∀ q ∈ l, q.1 < n ∧ q.2 < n) → (l.map fun q => (refV (hOf b s q.1), refV (hOf b s q.2))).filterMap (pairS hp) = l.map fun q => (12 + q.1, 12 + q.2) := by
        intro l
        induction l with
        | nil => intro _; rfl
        | cons a l ih =>
          intro h
          obtain ⟨h1, h2⟩ := h a (by simp)
          rw [List.map_cons, List.map_cons, List.filterMap_cons_some (b := (12 + a.1, 12 + a.2)), ih fun q hq => h q (by simp [hq])]
          unfold pairS
          rw [if_pos ⟨rfl, rfl⟩]
          simp only [refV, G.slot h1, G.slot h2]
      exact this _ fun q hq => ⟨J.key _ (List.of_mem_zip hq).1, J.val _ (List.of_mem_zip hq).2⟩
    · rw [if_neg hk, if_neg (by rw [hw]; simp [hk])]
      rfl
  · unfold gR at hy
    rcases List.mem_append.1 hy with h | h
    · exact (G.jo j hj).str y h
    · exact hmore j y h
  · unfold psR at hq
    split at hq
    · exact (G.jo j hj).val _ (List.of_mem_zip hq).2
    · cases hq
/-- The program's list of handles is the reference's list of numbers. -/
theorem GI.live (G : GI n b s L hp xs p m) (hem : ∀ j, j < n → em (hOf b s j) = (more.getD j []).map (hOf b s)) (hmore : ∀ j, ∀ y ∈ more.getD j [], y < n) (hL : L.length = n) (zs : List Nat) :
    (liveM hp em hp.slots.length hp.slots.length (addsK hp [] (handlesM L zs)) 0).map (fun i => handleM hp.base hp.stride (i : Nat)) = (liveR (gR xs more) (psR xs) n (n + 1) (addAll [] (zs.map (· % n))) 0).map (hOf b s) ∧
      Good n (liveR (gR xs more) (psR xs) n (n + 1) (addAll [] (zs.map (· % n))) 0) := by
  have E := G.emb hem hmore
  have hz : ∀ y ∈ zs.map (· % n), y < n := fun y hy => by
    obtain ⟨z, -, rfl⟩ := List.mem_map.1 hy
    exact Nat.mod_lt _ G.ok.pos
  have hg : Good n (addAll [] (zs.map (· % n))) := (Good.nil n).all hz
  refine ⟨?_, Good.liveR E.glt E.plt _ _ hg⟩
  have hh : handlesM L zs = (zs.map (· % n)).map (hOf b s) := by
    unfold handlesM
    rw [List.map_map]
    refine List.map_congr_left fun z _ => ?_
    rw [hL, G.handle (Nat.mod_lt _ G.ok.pos)]
    rfl
  have ha := emb_all (c := 12) (S := []) (Good.nil 12) (zs.map (· % n)) []
  have e0 : Go.Proofs.YthiiehanlconeaaDoor.emb 12 [] [] = [] := rfl
  rw [e0] at ha
  rw [liveM_eq, addsK_eq, hh, G.slots _ hz, ha, live_emb E (by rw [G.ok.slots]; omega) hg]
  unfold Go.Proofs.YthiiehanlconeaaDoor.emb
  rw [List.nil_append, List.map_map, G.base, G.stride]
  rfl
end
end Go.Proofs.YthiiehanlconeaaDoor
