/-
  Marks: the weak pass.
  The reference of layer 35: Has, add.
  A slice of one's own that lies in a temporary (not behind a place): its elements, and how they are replaced.
  The reference of layer 35: its objects in memory; Live.
  The law's two graphs side by side: the heap, the reference's objects, and blocks that neither of them touches.
  Several elements appended to a row in a field; sizes of values, properties and frames.
  A region that draws its order is cut in two: a head, whose operations come up in any order, and a tail, which waits for the whole head and has one order. (What the head's loads read may be stored into by the tail.)
  References as values: value.Normal, value.Same; heap.table; heap.entry.
-/
import Derived.Test.YtjianickjahdnaaDoorPHeapKeysc
import Derived.Test.YtjianickjahdnaaDoorPHeapKeysa
import Derived.StillTail
import Derived.Deep.RegionHeld3
import Derived.Laws.ResultCell
namespace Go.Proofs.YtjianickjahdnaaDoor
open Go.RowKit
set_option linter.unusedVariables false
set_option linter.unusedSimpArgs false

def noVal : Val := ⟨0, 0, ⟨#[]⟩, 0⟩
def pairsM (d : List Val) : List (Val × Val) := (List.range (d.length / 2)).map fun q => (d.getD (2 * q) noVal, d.getD (2 * q + 1) noVal)
def wkV (hp : Hp) (K : List Nat) (p : Val × Val) : List Nat := if p.2.kind = 5 ∧ p.1.kind = 5 ∧ hasK hp K p.1.ref = true then addK hp K p.2.ref else K
def weakObj (hp : Hp) (K : List Nat) (x : Obj) : List Nat := if x.kind = 5 then (pairsM x.data).foldl (wkV hp) K else K
def weakS (hp : Hp) (K : List Nat) (s : Nat) : List Nat := weakObj hp K (hp.slots.getD s noSlt).obj
def weakM (hp : Hp) (K : List Nat) : List Nat := K.foldl (weakS hp) K
def InI (h : Int) : Prop := -9223372036854775808 ≤ h ∧ h ≤ 9223372036854775807
/-- Objects of a size that is walked, with handles that are numbers of the machine. -/
structure HpOk (hp : Hp) : Prop where
  few : hp.slots.length ≤ 100000
  obj : ∀ s (h : s < hp.slots.length), ObjOk hp.slots[s].obj
  refs : ∀ s (h : s < hp.slots.length), ∀ r ∈ refsM hp.slots[s].obj, InI r
  data : ∀ s (h : s < hp.slots.length), ∀ v ∈ hp.slots[s].obj.data, InI v.ref
theorem addK_ok {hp : Hp} {K : List Nat} (h : KOk hp K) (r : Int) : KOk hp (addK hp K r) := by
  unfold addK
  cases hs : slotOf hp r with
  | none => exact h
  | some i =>
    obtain ⟨h1, h2, -⟩ := slotOf_lt hs
    exact h.add h1 h2
theorem wkV_ok {hp : Hp} {K : List Nat} (h : KOk hp K) (p : Val × Val) : KOk hp (wkV hp K p) := by
  unfold wkV
  split
  · exact addK_ok h _
  · exact h
theorem slotOf_handle {hp : Hp} {s : Nat} (hs : s < hp.slots.length) (hu : (hp.slots.getD s noSlt).used = true) (hl : hp.slots.length ≤ 100000) : slotOf hp (handleM hp.base hp.stride (s : Nat)) = some s := by
  unfold slotOf
  rw [index_of_handle _ _ (by omega)]
  rw [Int.toNat_natCast, if_pos ⟨by omega, hs, hu⟩]
theorem hpObj {w : World} {b o : Nat} {hp : Hp} {F : List Nat} {a : Option Addr} {m cap i : Nat} (H : Here hpR w b o hp F) (hv : w.cell? ⟨b, o + 2, none⟩ = some (.slice a m cap)) (hi : i < hp.slots.length) :
    ∃ g off, a = some ⟨g, off, none⟩ ∧ objPtr (.slice a m cap) (some i) = some ⟨g, off + i * 11 + 1, none⟩ ∧ ∃ G, Here objR w g (off + i * 11 + 1) hp.slots[i].obj G := by
  obtain ⟨g, off, rfl, G, h1, -⟩ := hpSlot H hv hi
  obtain ⟨G2, h2, -⟩ := h1.field sltR_obj (by show 0 < 11; decide)
  exact ⟨g, off, rfl, rfl, G2, h2⟩
theorem pairs_take {d : List Val} {q : Nat} (h : q < d.length / 2) : (pairsM d).take (q + 1) = (pairsM d).take q ++ [(d.getD (2 * q) noVal, d.getD (2 * q + 1) noVal)] := by
  have hl : q < (pairsM d).length := by unfold pairsM; simpa using h
  rw [List.take_succ_eq_append_getElem hl]
  congr 1
  unfold pairsM
  simp
theorem pairs_all (d : List Val) : (pairsM d).take (d.length / 2) = pairsM d := List.take_of_length_le (by unfold pairsM; simp)
theorem weakS_take {hp : Hp} {K K0 : List Nat} {i : Nat} (h : i < K.length) : (K.take (i + 1)).foldl (weakS hp) K0 = weakS hp ((K.take i).foldl (weakS hp) K0) K[i] := by
  rw [List.take_succ_eq_append_getElem h, List.foldl_append]
  rfl

/-- The list as it was when the pass began. -/
def SnapV (w : World) (bm : Nat) (F : List Nat) (v : Value) (l : List Int) : Prop := ∃ p c, v = .slice p l.length c ∧ (l = [] ∨ ∃ g off, p = some ⟨g, off, none⟩ ∧ Snap w bm F g off l.length ∧ ∀ j (h : j < l.length), w.cell? ⟨g, off + j, none⟩ = some (.int .i64 l[j]))
theorem SnapV.step {w w' : World} {bm : Nat} {F F' : List Nat} {v : Value} {l : List Int} (h : SnapV w bm F v l) (hs : Snaps w w' bm F F') : SnapV w' bm F' v l := by
  obtain ⟨p, c, rfl, h | ⟨g, off, rfl, h1, h2⟩⟩ := h
  · exact ⟨p, c, rfl, .inl h⟩
  · obtain ⟨k1, k2⟩ := hs g off _ h1
    exact ⟨_, c, rfl, .inr ⟨g, off, rfl, k1, fun j hj => k2 j _ hj (h2 j hj)⟩⟩
theorem SnapV.start {w : World} {bm : Nat} {m : Mk} {F : List Nat} (H : Here mkR w bm 0 m F) {v : Value} (hv : w.cell? ⟨bm, 2, none⟩ = some v) : SnapV w bm F v m.list := by
  obtain ⟨cs, ⟨v1, v2, F1, F2, rfl, h1, h2, rfl⟩, hc⟩ := H.cell
  obtain ⟨x2, e2, r2, rfl⟩ := row_flat.1 h2
  obtain rfl : v2 = x2 := by simpa using e2
  have c2 := hc 2 _ rfl
  simp only [Nat.zero_add] at c2
  rw [hv] at c2
  cases c2
  obtain ⟨a, c, rfl, -⟩ := r2.slice
  refine ⟨a, c, rfl, ?_⟩
  by_cases hl : m.list = []
  · exact .inl hl
  · have hpos : 0 < m.list.length := List.length_pos_iff.2 hl
    obtain ⟨g, off, cap, e, -, -⟩ := r2.addr hpos
    cases e
    refine .inr ⟨g, off, rfl, .inl ⟨_, _, hv, Nat.le_refl _⟩, fun j hj => r2.cellAt j _ ?_⟩
    rw [flatMap_one]
    simp [hj]

end Go.Proofs.YtjianickjahdnaaDoor
namespace Go.Proofs.YtjianickjahdnaaDoor
open Go.RowKit
set_option linter.unusedVariables false
set_option linter.unusedSimpArgs false

def addI (l : List Int) (n count : Int) : List Int := if n < 0 ∨ count ≤ n ∨ n ∈ l then l else l ++ [n]

end Go.Proofs.YtjianickjahdnaaDoor
namespace Go.Proofs.YtjianickjahdnaaDoor
open Go.RowKit
set_option linter.unusedVariables false

/-- The value v is a slice that owns its block, and what is behind it. -/
structure Row {α : Type} (A : Rep α) (e : TypeId) (w : World) (v : Value) (l : List α) (F : List Nat) : Prop where
  own : (A.row e).own w [v] l F
  nd : F.Nodup
section
variable {α : Type} {A : Rep α} {e : TypeId} {w w1 w2 : World} {v v2 : Value} {l m : List α} {F : List Nat}
theorem Row.chg {S : Nat → Prop} (h : Row A e w v l F) (hc : Chg S w w1) (hn : ∀ k ∈ F, ¬ S k) : Row A e w1 v l F := ⟨(A.row e).chg h.own hc hn, h.nd⟩
theorem Row.still (h : Row A e w v l F) (hc : Chg (fun _ => False) w w1) : Row A e w1 v l F := h.chg hc (fun _ _ x => x)
theorem Row.lt (h : Row A e w v l F) : ∀ k ∈ F, k < w.heap.size := (A.row e).lt h.own
theorem Row.val (h : Row A e w v l F) : ∃ a cap, v = .slice a l.length cap ∧ l.length ≤ cap ∧ cap ≤ maxLen := by
  obtain ⟨xs, Fs, h1⟩ := Rep.opened h.own
  exact h1.val
theorem Row.nil (A : Rep α) (e : TypeId) (w : World) : Row A e w (.slice none 0 0) [] [] := ⟨⟨_, [], [], rfl, RowAt.nil _ _ _, .nil, rfl⟩, List.nodup_nil⟩
theorem Row.apart {γ : Type} {C : Rep γ} {b o n : Nat} {G G' : List Nat} (h : Row A e w v l F) (hs : Step w w1 b o n G G') (hb : b ∉ F) (hG : ∀ k ∈ F, k ∉ G) : Row A e w1 v l F :=
  h.chg hs.chg fun k hk x => x.elim (fun e => hb (e ▸ hk)) (hG k hk)
theorem each_take_length {A : Rep α} {w : World} (ys : List (List Value)) (zs : List α) (Gs : List (List Nat)) (hh : Each A w ys zs Gs) : ∀ m, (ys.take m).flatten.length = (ys.take m).length * A.n := by
  induction hh with
  | nil => intro m; simp
  | cons a1 _ ih =>
    intro m
    cases m with
    | zero => simp
    | succ m => rw [List.take_succ_cons, List.flatten_cons, List.length_append, ih m, A.len a1, List.length_cons, Nat.add_mul]; omega
theorem Row.elem (h : Row A e w v l F) (hl : 0 < l.length) :
    ∃ g off cap, v = .slice (some ⟨g, off, none⟩) l.length cap ∧ l.length ≤ cap ∧ cap ≤ maxLen ∧ g ∈ F ∧
      ∀ i (hi : i < l.length), ∃ G, Here A w g (off + i * A.n) l[i] G ∧ (∀ x ∈ G, x ∈ F) ∧ g ∉ G ∧
        ∀ w' y G', Here A w' g (off + i * A.n) y G' → Step w w' g (off + i * A.n) A.n G G' → ∃ F', Row A e w' v (l.set i y) F' ∧ Chg (fun k => k ∈ F) w w' ∧ ∀ x ∈ F', x ∈ F ∨ w.heap.size ≤ x := by
  obtain ⟨⟨v', xs, Fs, hv, hrow, hE, rfl⟩, hnd⟩ := h
  obtain rfl : v = v' := by simpa using hv
  obtain ⟨g, off, cap, rfl, k1, k2⟩ := hrow.addr hl
  rw [ownL_some] at hnd ⊢
  simp only [List.singleton_append, List.nodup_cons, List.mem_cons] at hnd ⊢
  refine ⟨g, off, cap, rfl, k1, k2, .inl rfl, ?_⟩
  intro i hi
  obtain ⟨x, G, xa, xb, Fa, Fb, q1, rfl, q3, rfl, q5⟩ := hE.at i hi
  obtain ⟨hflat, hr⟩ := hrow
  rcases hr with ⟨hv', _⟩ | ⟨g', off', cap', cur, hv', hg, _, _, hsz, hcur⟩
  · simp at hv'
  simp only [Value.slice.injEq, Option.some.injEq, Addr.mk.injEq, true_and] at hv'
  obtain ⟨⟨rfl, rfl, _⟩, rfl⟩ := hv'
  have hxl := A.len q1
  have hxa : xa.flatten.length = i * A.n := by
    have h1 := each_take_length _ _ _ hE i
    rw [← q3, List.take_left] at h1
    rw [h1, q3]
  have hmul : (i + 1) * A.n ≤ l.length * A.n := Nat.mul_le_mul_right _ hi
  have hmul2 : l.length * A.n ≤ cap * A.n := Nat.mul_le_mul_right _ k1
  rw [Nat.add_mul, Nat.one_mul] at hmul
  have hx : (cur.toList.drop (off + i * A.n)).take A.n = x := by
    have e1 := congrArg (fun z => (z.drop (i * A.n)).take A.n) hcur
    simp only [List.flatten_append, List.flatten_cons] at e1
    rw [← hxa, List.drop_left, hxa, ← hxl, List.take_left, hxl] at e1
    rw [← e1]
    refine List.ext_getElem? fun j => ?_
    by_cases hj : j < A.n
    · rw [take_drop_get hj, take_drop_get hj, take_drop_get (by omega)]; congr 1; omega
    · rw [List.getElem?_take, if_neg hj, List.getElem?_take, if_neg hj]
  have hmem : ∀ z, z ∈ G → z ∈ (Fa ++ G :: Fb).flatten := fun z hz => by simp [hz]
  have hG : G.Nodup ∧ (∀ z ∈ G, z ∉ Fa.flatten ++ Fb.flatten) ∧ (Fa.flatten ++ Fb.flatten).Nodup := by
    have := hnd.2
    simp only [List.flatten_append, List.flatten_cons, List.nodup_append, List.mem_append] at this ⊢
    exact ⟨this.2.1.1, fun z hz hh => hh.elim (fun y => this.2.2 z y z (.inl hz) rfl) (fun y => this.2.1.2.2 z hz z y rfl), this.1, this.2.1.2.1, fun a ha b hb => this.2.2 a ha b (.inr hb)⟩
  have hgG : g ∉ G := fun x => hnd.1 (hmem g x)
  refine ⟨G, ⟨⟨cur, e, hg, by rw [hx]; exact q1⟩, fun hh => hnd.1 (hmem _ hh), hG.1⟩, fun z hz => .inr (hmem z hz), hgG, ?_⟩
  intro w' y G' hy hs
  obtain ⟨cur', p1, p2, p3⟩ := hs.rest cur e hg
  obtain ⟨d, U, r1, r2⟩ := hy.box
  rw [p1] at r1
  simp only [Option.some.injEq, Obj.cells.injEq] at r1
  obtain ⟨rfl, rfl, _⟩ := r1
  have hgF : g ∉ Fa.flatten ++ Fb.flatten := fun hh => hnd.1 (by simp only [List.flatten_append, List.flatten_cons, List.mem_append] at hh ⊢; exact hh.imp id .inr)
  have hlt := hE.lt
  have hglt := lt_of_block hg
  have hkeep : ∀ k ∈ Fa.flatten ++ Fb.flatten, ∀ ob, w.heap[k]? = some ob → w'.heap[k]? = some ob := by
    intro k hk ob ho
    refine hs.chg.keep ho ?_
    rintro (x | x)
    · exact hgF (x ▸ hk)
    · exact hG.2.1 k x hk
  have hE' := q5 w' _ y G' hkeep r2
  have hG' : ∀ z ∈ G', z ∉ Fa.flatten ++ Fb.flatten := by
    intro z hz hh
    rcases hs.new z hz with x | x
    · exact hG.2.1 z x hh
    · have := hlt z (by simp only [List.flatten_append, List.flatten_cons, List.mem_append] at hh ⊢; exact hh.imp id .inr)
      omega
  refine ⟨g :: (Fa ++ G' :: Fb).flatten, ⟨⟨.slice (some ⟨g, off, none⟩) l.length cap, _, _, rfl, ?_, hE', by simp [ownL_some]⟩, ?_⟩, ?_, ?_⟩
  · refine ⟨by rw [hE'.flat], .inr ⟨g, off, cap, cur', by simp, p1, by simpa using k1, k2, by rw [p2]; exact hsz, ?_⟩⟩
    rw [List.length_set]
    have e1 := ext_rest (k := i * A.n) (m := A.n) (n := l.length * A.n) (o := off) p2 hmul (by omega) p3
    rw [e1, hcur]
    simp only [List.flatten_append, List.flatten_cons]
    rw [List.take_left' hxa, ← List.append_assoc, List.append_assoc]
    congr 1
    congr 1
    rw [← List.drop_drop, List.append_assoc, ← hxa, List.drop_left, ← hxl, List.drop_left]
  · simp only [List.nodup_cons]
    refine ⟨fun hh => ?_, ?_⟩
    · simp only [List.flatten_append, List.flatten_cons, List.mem_append] at hh hgF
      rcases hh with hh | hh | hh
      · exact hgF (.inl hh)
      · exact hy.nb hh
      · exact hgF (.inr hh)
    · have h3 := hG.2.2
      simp only [List.flatten_append, List.flatten_cons, List.nodup_append, List.mem_append] at h3 ⊢
      refine ⟨h3.1, ⟨hy.nd, h3.2.1, fun a ha b hb e => hG' a ha (List.mem_append_right _ (e ▸ hb))⟩, ?_⟩
      rintro a ha b (hb | hb) e
      · exact hG' b hb (List.mem_append_left _ (e ▸ ha))
      · exact h3.2.2 a ha b hb e
  · refine hs.chg.mono fun k hk x => ?_
    rcases x with x | x
    · exact .inl x
    · exact .inr (hmem k x)
  · intro k hk
    simp only [List.flatten_append, List.flatten_cons, List.mem_append, List.mem_cons] at hk ⊢
    rcases hk with hk | hk | hk | hk
    · exact .inl (.inl hk)
    · exact .inl (.inr (.inl hk))
    · rcases hs.new k hk with x | x
      · exact .inl (.inr (.inr (.inl x)))
      · exact .inr x
    · exact .inl (.inr (.inr (.inr hk)))
/-- The cells of an element. -/
theorem Row.cell (h : Row A e w v l F) {i : Nat} (hi : i < l.length) : ∃ g off cap, v = .slice (some ⟨g, off, none⟩) l.length cap ∧ ∃ cs G, A.own w cs l[i] G ∧ (∀ k ∈ G, k ∈ F) ∧ ∀ j u, cs[j]? = some u → w.cell? ⟨g, off + i * A.n + j, none⟩ = some u := by
  obtain ⟨g, off, cap, rfl, _, _, _, h1⟩ := h.elem (by omega)
  obtain ⟨G, h2, h3, _⟩ := h1 i hi
  obtain ⟨cs, h4, h5⟩ := h2.cell
  exact ⟨g, off, cap, rfl, cs, G, h4, h3, h5⟩
end
end Go.Proofs.YtjianickjahdnaaDoor
namespace Go.Proofs.YtjianickjahdnaaDoor
open Go.RowKit
set_option linter.unusedVariables false
set_option linter.unusedSimpArgs false

def natI (K : List Nat) : List Int := K.map fun i : Nat => (i : Int)
theorem natI_len (K : List Nat) : (natI K).length = K.length := List.length_map ..
def natR : Rep Nat := Rep.flat 1 (fun n : Nat => [.int .i64 (n : Int)]) (fun _ => rfl)
structure RObj where
  weak : Bool
  strong : List Nat
  keys : List Nat
  vals : List Nat
def RObj.Own (w : World) (cs : List Value) (s : RObj) (F : List Nat) : Prop :=
  ∃ v1 v2 v3 F1 F2 F3, cs = [.bool s.weak, v1, v2, v3] ∧ (natR.row 3).own w [v1] s.strong F1 ∧ (natR.row 3).own w [v2] s.keys F2 ∧ (natR.row 3).own w [v3] s.vals F3 ∧ F = F1 ++ F2 ++ F3
def robjR : Rep RObj where
  n := 4
  own := RObj.Own
  len := by rintro w cs s F ⟨v1, v2, v3, F1, F2, F3, rfl, h1, h2, h3, rfl⟩; rfl
  lt := by
    rintro w cs s F ⟨v1, v2, v3, F1, F2, F3, rfl, h1, h2, h3, rfl⟩ k hk
    simp only [List.mem_append] at hk
    rcases hk with (x | x) | x
    · exact (natR.row 3).lt h1 k x
    · exact (natR.row 3).lt h2 k x
    · exact (natR.row 3).lt h3 k x
  keep := by
    rintro w w2 cs s F ⟨v1, v2, v3, F1, F2, F3, rfl, h1, h2, h3, rfl⟩ hk
    exact ⟨v1, v2, v3, F1, F2, F3, rfl, (natR.row 3).keep h1 (fun k hm => hk k (by simp [hm])), (natR.row 3).keep h2 (fun k hm => hk k (by simp [hm])), (natR.row 3).keep h3 (fun k hm => hk k (by simp [hm])), rfl⟩
theorem robjR_weak : FieldOf robjR Rep.bool 0 (·.weak) (fun s y => { s with weak := y }) := by
  refine ⟨by show 0 + 1 ≤ 4; omega, ?_⟩
  rintro w cs s F ⟨v1, v2, v3, F1, F2, F3, rfl, h1, h2, h3, rfl⟩
  refine ⟨F1 ++ F2 ++ F3, [], [], by simp, ⟨rfl, rfl⟩, fun w2 ys y G hk hy => ?_⟩
  obtain ⟨rfl, rfl⟩ := hy
  exact ⟨v1, v2, v3, F1, F2, F3, rfl, (natR.row 3).keep h1 (fun k hm => hk k (by simp [hm])), (natR.row 3).keep h2 (fun k hm => hk k (by simp [hm])), (natR.row 3).keep h3 (fun k hm => hk k (by simp [hm])), by simp⟩
theorem robjR_strong : FieldOf robjR (natR.row 3) 1 (·.strong) (fun s y => { s with strong := y }) := by
  refine ⟨by show 1 + 1 ≤ 4; omega, ?_⟩
  rintro w cs s F ⟨v1, v2, v3, F1, F2, F3, rfl, h1, h2, h3, rfl⟩
  refine ⟨[], F1, F2 ++ F3, by simp, h1, fun w2 ys y G hk hy => ?_⟩
  obtain ⟨y0, rfl⟩ : ∃ y0, ys = [y0] := List.length_eq_one_iff.1 ((natR.row 3).len hy)
  exact ⟨y0, v2, v3, G, F2, F3, rfl, hy, (natR.row 3).keep h2 (fun k hm => hk k (by simp [hm])), (natR.row 3).keep h3 (fun k hm => hk k (by simp [hm])), by simp⟩
theorem robjR_keys : FieldOf robjR (natR.row 3) 2 (·.keys) (fun s y => { s with keys := y }) := by
  refine ⟨by show 2 + 1 ≤ 4; omega, ?_⟩
  rintro w cs s F ⟨v1, v2, v3, F1, F2, F3, rfl, h1, h2, h3, rfl⟩
  refine ⟨F1, F2, F3, by simp, h2, fun w2 ys y G hk hy => ?_⟩
  obtain ⟨y0, rfl⟩ : ∃ y0, ys = [y0] := List.length_eq_one_iff.1 ((natR.row 3).len hy)
  exact ⟨v1, y0, v3, F1, G, F3, rfl, (natR.row 3).keep h1 (fun k hm => hk k (by simp [hm])), hy, (natR.row 3).keep h3 (fun k hm => hk k (by simp [hm])), by simp⟩
theorem robjR_vals : FieldOf robjR (natR.row 3) 3 (·.vals) (fun s y => { s with vals := y }) := by
  refine ⟨by show 3 + 1 ≤ 4; omega, ?_⟩
  rintro w cs s F ⟨v1, v2, v3, F1, F2, F3, rfl, h1, h2, h3, rfl⟩
  refine ⟨F1 ++ F2, F3, [], by simp, h3, fun w2 ys y G hk hy => ?_⟩
  obtain ⟨y0, rfl⟩ : ∃ y0, ys = [y0] := List.length_eq_one_iff.1 ((natR.row 3).len hy)
  exact ⟨v1, v2, y0, F1, F2, G, rfl, (natR.row 3).keep h1 (fun k hm => hk k (by simp [hm])), (natR.row 3).keep h2 (fun k hm => hk k (by simp [hm])), hy, by simp⟩
/-- A row of small numbers, read. -/
theorem natRow {w : World} {v : Value} {l : List Nat} {F : List Nat} (h : (natR.row 3).own w [v] l F) : RowAt w 3 1 v l.length (intC (natI l)) ∧ F = ownL v := by
  obtain ⟨v', e, r, hF⟩ := row_flat.1 h
  obtain rfl : v = v' := by simpa using e
  rw [flatMap_one] at r
  refine ⟨?_, hF⟩
  have : (l.map fun n : Nat => Value.int .i64 (n : Int)) = intC (natI l) := by unfold intC natI; rw [List.map_map]; rfl
  rw [← this]; exact r
/-- An object of the reference, read. -/
structure RoC (w : World) (g o : Nat) (x : RObj) (v1 v2 v3 : Value) : Prop where
  c0 : w.cell? ⟨g, o, none⟩ = some (.bool x.weak)
  c1 : w.cell? ⟨g, o + 1, none⟩ = some v1
  c2 : w.cell? ⟨g, o + 2, none⟩ = some v2
  c3 : w.cell? ⟨g, o + 3, none⟩ = some v3
  r1 : RowAt w 3 1 v1 x.strong.length (intC (natI x.strong))
  r2 : RowAt w 3 1 v2 x.keys.length (intC (natI x.keys))
  r3 : RowAt w 3 1 v3 x.vals.length (intC (natI x.vals))
theorem RoC.still {w w' : World} {g o : Nat} {x : RObj} {v1 v2 v3 : Value} (h : RoC w g o x v1 v2 v3) (hc : Chg (fun _ => False) w w') : RoC w' g o x v1 v2 v3 :=
  ⟨hc.cell h.c0, hc.cell h.c1, hc.cell h.c2, hc.cell h.c3, h.r1.chg hc (fun _ _ x => x), h.r2.chg hc (fun _ _ x => x), h.r3.chg hc (fun _ _ x => x)⟩
theorem roOpen {w : World} {T : TypeId} {v : Value} {xs : List RObj} {F : List Nat} (h : Row robjR T w v xs F) {i : Nat} (hi : i < xs.length) :
    ∃ g off cap, v = .slice (some ⟨g, off, none⟩) xs.length cap ∧ ∃ v1 v2 v3, RoC w g (off + i * 4) xs[i] v1 v2 v3 := by
  obtain ⟨g, off, cap, rfl, cs, G, ⟨v1, v2, v3, F1, F2, F3, rfl, h1, h2, h3, -⟩, -, hc⟩ := h.cell hi
  have e : off + i * robjR.n = off + i * 4 := rfl
  rw [e] at hc
  exact ⟨g, off, cap, rfl, v1, v2, v3, hc 0 _ rfl, hc 1 _ rfl, hc 2 _ rfl, hc 3 _ rfl, (natRow h1).1, (natRow h2).1, (natRow h3).1⟩
/-- A row of rows of small numbers, read. -/
theorem mrOpen {w : World} {T : TypeId} {v : Value} {xs : List (List Nat)} {F : List Nat} (h : Row (natR.row 3) T w v xs F) {i : Nat} (hi : i < xs.length) :
    ∃ g off cap, v = .slice (some ⟨g, off, none⟩) xs.length cap ∧ ∃ v1, w.cell? ⟨g, off + i, none⟩ = some v1 ∧ RowAt w 3 1 v1 xs[i].length (intC (natI xs[i])) := by
  obtain ⟨g, off, cap, rfl, cs, G, ho, -, hc⟩ := h.cell hi
  have ho' := ho
  obtain ⟨v1, x, y, rfl, -⟩ := ho'
  have e : off + i * (natR.row 3).n = off + i := by show off + i * 1 = off + i; omega
  rw [e] at hc
  exact ⟨g, off, cap, rfl, v1, hc 0 _ rfl, (natRow ho).1⟩
theorem addI_nat {K : List Nat} {i n : Nat} (hi : i < n) : addI (natI K) (i : Int) (n : Int) = natI (addN K i) := by
  have hm : ((i : Int) ∈ natI K) ↔ i ∈ K := by
    unfold natI
    rw [List.mem_map]
    constructor
    · rintro ⟨a, ha, e⟩
      have : a = i := by omega
      subst this; exact ha
    · exact fun h => ⟨i, h, rfl⟩
  unfold addI addN
  by_cases h : i ∈ K
  · rw [if_pos (.inr (.inr (hm.2 h))), if_pos h]
  · rw [if_neg (by rintro (x | x | x); omega; omega; exact h (hm.1 x)), if_neg h]
    simp [natI]
/-- The objects of the reference: n of them, numbers below n. -/
structure XOk (n : Nat) (xs : List RObj) (more : List (List Nat)) : Prop where
  len : xs.length = n
  strong : ∀ x ∈ xs, ∀ y ∈ x.strong, y < n
  vals : ∀ x ∈ xs, ∀ y ∈ x.vals, y < n
  keys : ∀ x ∈ xs, x.keys.length = x.vals.length
  mores : ∀ l ∈ more, ∀ y ∈ l, y < n
  few : n ≤ 1000
  sl : ∀ x ∈ xs, x.strong.length ≤ 100000
  kl : ∀ x ∈ xs, x.keys.length ≤ 100000
  ml : ∀ l ∈ more, l.length ≤ 100000
  mn : more.length ≤ 100000
def noR : RObj := ⟨false, [], [], []⟩
def gR (xs : List RObj) (more : List (List Nat)) (j : Nat) : List Nat := (xs.getD j noR).strong ++ more.getD j []
def psR (xs : List RObj) (j : Nat) : List (Nat × Nat) := if (xs.getD j noR).weak then (xs.getD j noR).keys.zip (xs.getD j noR).vals else []
theorem addAll_append (K a b : List Nat) : addAll K (a ++ b) = addAll (addAll K a) b := by unfold addAll; rw [List.foldl_append]
theorem addAll_snoc (K a : List Nat) (b : Nat) : addAll K (a ++ [b]) = addN (addAll K a) b := by unfold addAll; rw [List.foldl_append]; rfl
theorem getD_get {α : Type} {l : List α} {d : α} {i : Nat} (h : i < l.length) : l.getD i d = l[i] := by rw [List.getD_eq_getElem?_getD, List.getElem?_eq_getElem h]; rfl
theorem XOk.g {n : Nat} {xs : List RObj} {more : List (List Nat)} (h : XOk n xs more) : ∀ o, o < n → ∀ y ∈ gR xs more o, y < n := by
  intro o ho y hy
  unfold gR at hy
  rcases List.mem_append.1 hy with x | x
  · have hl : o < xs.length := by rw [h.len]; exact ho
    rw [getD_get hl] at x
    exact h.strong _ (List.getElem_mem hl) y x
  · by_cases hl : o < more.length
    · rw [getD_get hl] at x
      exact h.mores _ (List.getElem_mem hl) y x
    · rw [List.getD_eq_getElem?_getD, List.getElem?_eq_none (by omega)] at x
      simp at x
theorem XOk.ps {n : Nat} {xs : List RObj} {more : List (List Nat)} (h : XOk n xs more) : ∀ o, o < n → ∀ p ∈ psR xs o, p.2 < n := by
  intro o ho p hp
  unfold psR at hp
  have hl : o < xs.length := by rw [h.len]; exact ho
  rw [getD_get hl] at hp
  split at hp
  · obtain ⟨a, b⟩ := p
    exact h.vals _ (List.getElem_mem hl) b (List.of_mem_zip hp).2
  · cases hp
end Go.Proofs.YtjianickjahdnaaDoor
namespace Go.Proofs.YtjianickjahdnaaDoor
open Go.RowKit
set_option linter.unusedVariables false
set_option linter.unusedSimpArgs false

/-- The blocks B lie as they lay. -/
def KeepB (B : List Nat) (W W' : World) : Prop := ∀ k ∈ B, ∀ o, W.heap[k]? = some o → W'.heap[k]? = some o
theorem KeepB.refl (B : List Nat) (W : World) : KeepB B W W := fun _ _ _ h => h
theorem KeepB.trans {B : List Nat} {W W' W'' : World} (h : KeepB B W W') (k : KeepB B W' W'') : KeepB B W W'' := fun i hi o ho => k i hi o (h i hi o ho)
theorem KeepB.still {B : List Nat} {W W' : World} (hc : Chg (fun _ => False) W W') : KeepB B W W' := fun k _ _ ho => hc.keep ho (fun x => x)
theorem KeepB.sub {B B' : List Nat} {W W' : World} (h : KeepB B W W') (hs : ∀ k ∈ B', k ∈ B) : KeepB B' W W' := fun k hk => h k (hs k hk)
section
variable {w0 W W' : World} {bh : Nat} {hp hp' : Hp} {vx : Value} {xs : List RObj} {Fh Fx B : List Nat}
def putO (hp : Hp) (i : Nat) (o : Obj) : Hp := { hp with slots := hp.slots.set i { hp.slots.getD i noSlt with obj := o } }
theorem setCell_heap_eq {w w' : World} {p : Addr} {v : Value} {j : Nat} (h : w.heap[j]? = w'.heap[j]?) : (w.setCell p v).heap[j]? = (w'.setCell p v).heap[j]? := by
  simp only [World.setCell, Array.getElem?_modify, h]
end
end Go.Proofs.YtjianickjahdnaaDoor
namespace Go.Proofs.YtjianickjahdnaaDoor
open Go.RowKit
set_option linter.unusedVariables false
set_option linter.unusedSimpArgs false

theorem elem_val : Elem Tryd.prog 36 4 40 := elem_of (by kernel_rfl)
theorem elem_prop : Elem Tryd.prog 86 5 56 := elem_of (by kernel_rfl)
theorem elem_frm : Elem Tryd.prog 164 16 184 := elem_of (by kernel_rfl)
section
variable {α β : Type} {A : Rep α} {B : Rep β} {e : TypeId} {w : World} {b o k : Nat} {a : α} {F : List Nat}
theorem Here.fieldAppendingAll {get : α → List β} {set : α → List β → α} (fl : FieldOf A (B.row e) k get set) (hA : 0 < A.n) (H : Here A w b o a F) :
    ∃ p cap xs Fs Fr, w.cell? ⟨b, o + k, none⟩ = some (.slice p (get a).length cap) ∧ RowOpen B e w (.slice p (get a).length cap) (get a) Fr xs Fs ∧ w.frozen? ⟨b, o + k, none⟩ = false ∧
      (∀ w1 w3, Chg (fun _ => False) w w1 → Chg (fun j => (Value.slice p (get a).length cap).ownBlock = some j) w1 w3 → w3.cell? ⟨b, o + k, none⟩ = some (.slice p (get a).length cap) ∧ w3.frozen? ⟨b, o + k, none⟩ = false) ∧
      ∀ w1 w3 ys m Gs v2, Chg (fun _ => False) w w1 → Each B w1 ys m Gs → (∀ j ∈ Gs.flatten, w.heap.size ≤ j) → Gs.flatten.Nodup → RowAt w3 e B.n v2 ((get a).length + m.length) (xs.flatten ++ ys.flatten) →
        Chg (fun j => (Value.slice p (get a).length cap).ownBlock = some j) w1 w3 → (∀ j, v2.ownBlock = some j → (Value.slice p (get a).length cap).ownBlock = some j ∨ w1.heap.size ≤ j) →
        Post A w b o (set a (get a ++ m)) F (w3.setCell ⟨b, o + k, none⟩ v2) := by
  obtain ⟨G1, h1, h2, h3⟩ := H.field fl hA
  obtain ⟨p, cap, xs, Fs, q1, q2, _, _, q5, q6⟩ := h1.appending
  refine ⟨p, cap, xs, Fs, G1, q1, q2, q5, q6, fun w1 w3 ys m Gs v2 k1 k2 k3 k4 k5 k6 k7 => ?_⟩
  obtain ⟨F', r1, r2⟩ := q2.pushAll h1 k1 k2 k3 k4 k5 k6 k7
  exact h3 _ _ _ r1 r2
end
/-- Several elements appended; they lie in block g. Inside a region that draws its order. -/
theorem step_append_elems {P : Program} {W : World} {ops : Array Oper} {o : Oper} {a : Act} {K : Act → World → Prop} {Q : Exit → Act → World → Prop} {E : Prop} (m : Nat) (hm : 0 < m) (hgd : o.guard = none) (s x : Operand) (t : TypeId)
    (ho : o.op = .call { callee := .builtin .append, args := #[s, x], argTypes := #[t, t] })
    (e : TypeId) (size bytes : Nat) (ht : P.underlying t = some (.slice e)) (hE : Elem P e size bytes) (hsz : 0 < size)
    (v : Value) (n : Nat) (xs : List Value) (hsv : a.eval s = v) (hown : RowAt W e size v n xs) (news : List Value) (hnl : news.length = m * size) (g T : Nat) (f : Nat × Nat)
    (hx : a.eval x = .slice (some ⟨g, 0, none⟩) m m) (hg : W.heap[g]? = some (.cells news.toArray T f)) (h1 : ∀ u ∈ news, u.oneCell' = true)
    (h63 : n + m ≤ maxLen) (hbytes : (n + m) * bytes ≤ 140737488355328)
    (h : ∀ a1 n1 c1 w', RowAt w' e size (.slice a1 n1 c1) (n + m) (xs ++ news) → Chg (fun k => v.ownBlock = some k) W w' → (∀ k, (Value.slice a1 n1 c1).ownBlock = some k → v.ownBlock = some k ∨ W.heap.size ≤ k) → K (a.put o.dst (.slice a1 n1 c1)) w') :
    if Region.wanted o (yielded ops a.tmps) = true then Oper.wp P o a W K Q else E := by
  obtain ⟨i, z, hi, hz, hsize, hby, hzs⟩ := hE
  refine step_append_row hgd s x t t ho e i z size bytes ht hi hz hsize hby hzs hsz v n xs hsv hown _ m news hx (Src.ofSlice _ ht _ m m news hnl ?_ h1) h63 hbytes ?_
  · intro j u hu
    have hadd : (⟨g, 0, none⟩ : Addr).add j = ⟨g, j, none⟩ := by unfold Addr.add; split <;> simp_all
    rw [hadd]
    exact cell_of_block hg (by simpa using hu)
  · intro v' w' h1 h2 h3
    obtain ⟨a1, c1, rfl, _⟩ := h1.slice
    exact h a1 _ c1 w' h1 h2 h3
theorem val_own (w : World) (v : Val) : valR.own w v.cells v [] := ⟨rfl, rfl⟩
theorem refV_own (w : World) (h : Int) : valR.own w [.int .i64 5, .int .i64 0, .string ⟨#[]⟩, .int .i64 h] ⟨5, 0, ⟨#[]⟩, h⟩ [] := ⟨rfl, rfl⟩
theorem prop_own (w : World) (k : ByteArray) (h : Int) : propR.own w [.string k, .int .i64 5, .int .i64 0, .string ⟨#[]⟩, .int .i64 h] ⟨k, 5, 0, ⟨#[]⟩, h⟩ [] := ⟨rfl, rfl⟩
end Go.Proofs.YtjianickjahdnaaDoor
namespace Go.Proofs.YtjianickjahdnaaDoor
open Go.RowKit
set_option linter.unusedVariables false
set_option linter.unusedSimpArgs false

section
variable {P : Program} {Q : Exit → Act → World → Prop}

def backB (l : List Oper) : Bool := (List.range l.length).all fun i =>
  match l[i]? with
  | some o => (o.after.all fun e => !Region.binds .any e || decide (e.on < i)) && (match o.guard with | some (g, _) => decide (g < i) | none => true)
  | none => true
def cutArr (n m : Nat) : Array Bool := Array.replicate n true ++ Array.replicate m false
def splitB (l : List Oper) (n : Nat) : Bool :=
  decide (n < l.length) && Region.sinkB .any l.toArray n && Region.chainB .any l.toArray n && backB l && Region.seqB .any l.toArray (l.length - n) n (cutArr n (l.length - n))
/-- What is left behind the head. -/
def headPost (P : Program) (l : List Oper) (n : Nat) (Q : Exit → Act → World → Prop) : Exit → Act → World → Prop
  | .normal, a, w => wpList P l.toArray Q (l.drop n) a w
  | .exit i, a, w => Q (.exit i) a w
  | .goto i, a, w => Q (.goto i) a w
  | .ret, a, w => Q .ret a w
  | .panic c, a, w => Q (.panic c) a w
  | .outgrown, a, w => Q .outgrown a w

theorem headPost_wp {l : List Oper} {n : Nat} {o : Oper} {a : Act} {w : World} {K K' : Act → World → Prop} (h : ∀ a w, K a w → K' a w) (hh : o.wp P a w K (headPost P l n Q)) : o.wp P a w K' Q := by
  unfold Oper.wp at *
  generalize (execOp a.eval o).run P w = r at *
  cases r with
  | ok x w' =>
    cases x with
    | enter f args => exact Calls.mono hh (fun e w'' he => by cases e <;> first | exact h _ _ he | exact he)
    | row r args => exact Rows.mono hh (fun _ _ he => h _ _ he)
    | _ => first | exact h _ _ hh | exact hh
  | halt x w' => cases x <;> exact hh

theorem head_at {l : List Oper} {n i : Nat} (hi : i < n) : (l.take n).toArray[i]? = l.toArray[i]? := by
  simp [hi]

theorem backB_spec {l : List Oper} (hB : backB l = true) {i : Nat} {o : Oper} (ho : l.toArray[i]? = some o) :
    (∀ e ∈ o.after, Region.binds .any e = true → e.on < i) ∧ (∀ g b, o.guard = some (g, b) → g < i) := by
  have hl : l[i]? = some o := by simpa using ho
  have hlt : i < l.length := (List.getElem?_eq_some_iff.1 hl).1
  have h := List.all_eq_true.1 hB i (List.mem_range.2 hlt)
  simp only [hl, Bool.and_eq_true] at h
  refine ⟨fun e he hb => ?_, fun g b hg => ?_⟩
  · have h1 := Array.all_eq_true_iff_forall_mem.1 h.1 e he
    simpa [hb] using h1
  · have h2 := h.2
    rw [hg] at h2
    simpa using h2

theorem wanted_head {l : List Oper} {n i : Nat} {o : Oper} (hB : backB l = true) (ho : l.toArray[i]? = some o) (hi : i < n) (t : Array Value) :
    Region.wanted o (yielded (l.take n).toArray t) = Region.wanted o (yielded l.toArray t) := by
  unfold Region.wanted
  cases hg : o.guard with
  | none => rfl
  | some x =>
    obtain ⟨g, b⟩ := x
    have h1 := (backB_spec hB ho).2 g b hg
    simp only
    unfold yielded
    rw [head_at (show g < n by omega)]

theorem wpOp_head {l : List Oper} {n i : Nat} {a : Act} {w : World} {K K' : Act → World → Prop} (hB : backB l = true) (hi : i < n) (h : ∀ a w, K a w → K' a w)
    (hh : wpOp P (l.take n).toArray (headPost P l n Q) i K a w) : wpOp P l.toArray Q i K' a w := by
  unfold wpOp at *
  rw [head_at hi] at hh
  cases ho : l.toArray[i]? with
  | none => simp only [ho] at hh ⊢; exact h _ _ hh
  | some o =>
    simp only [ho] at hh ⊢
    rw [wanted_head hB ho hi] at hh
    by_cases hw : Region.wanted o (yielded l.toArray a.tmps) = true
    · rw [if_pos hw] at hh ⊢
      exact hh.imp (headPost_wp h) id
    · rw [if_neg hw] at hh ⊢
      exact h _ _ hh

theorem getD_both' {x : Array Bool} {i : Nat} (h : i < x.size) : x.getD i true = x.getD i false := by simp [h]

theorem some_ready {l : List Oper} {n : Nat} {x : Array Bool} (hB : backB l = true) (hn : n ≤ l.length) (hx : x.size = n) : ∀ i, i < n → x.getD i true = false → ∃ j, j ∈ Region.ready .any (l.take n).toArray x := by
  intro i
  induction i using Nat.strongRecOn with
  | _ i ih =>
    intro hi hu
    have hl : i < l.length := by omega
    have ho : l.toArray[i]? = some l[i] := by simp [hl]
    by_cases hall : ∀ e ∈ l[i].after, Region.binds .any e = true → x.getD e.on false = true
    · exact ⟨i, mem_ready.2 ⟨hu, l[i], by rw [head_at hi]; exact ho, hall⟩⟩
    · simp only [Classical.not_forall] at hall
      obtain ⟨e, he, hb, hne⟩ := hall
      have hlt := (backB_spec hB ho).1 e he hb
      exact ih e.on hlt (by omega) (by rw [getD_both' (by omega)]; simpa using hne)

theorem wpAny_split {l : List Oper} {n : Nat} (hn : n < l.length) (hs : Region.sinkB .any l.toArray n = true) (hc : Region.chainB .any l.toArray n = true) (hB : backB l = true)
    (hq : Region.seqB .any l.toArray (l.length - n) n (cutArr n (l.length - n)) = true) :
    ∀ (f : Nat) (x y : Array Bool) (a : Act) (w : World), x.size = n → HeadInv .any l.toArray n y → (∀ i, i < n → y.getD i true = x.getD i true) → x.toList.count false = f →
      wpAny P .any (l.take n).toArray (headPost P l n Q) f x a w → wpAny P .any l.toArray Q (f + (l.length - n)) y a w := by
  intro f
  induction f with
  | zero =>
    intro x y a w hx hy hxy hf h
    have hall : ∀ i, i < n → x.getD i true = true := by
      intro i hi
      have h0 := List.count_eq_zero.1 hf
      have hlt : i < x.size := by omega
      rcases hb : x.getD i true with _ | _
      · exact absurd (by have : x[i] = false := by simpa [hlt] using hb
                         rw [← this]; simp) h0
      · rfl
    have hyc : y = cutArr n (l.length - n) := by
      have hys : y.size = l.length := by simpa using hy.size
      refine Array.ext (by simp [cutArr, hys]; omega) fun i h1 h2 => ?_
      by_cases hi : i < n
      · have := hxy i hi
        rw [hall i hi] at this
        have e1 : y[i] = true := by simpa [h1] using this
        rw [e1]
        simp [cutArr, Array.getElem_append, hi]
      · have := hy.tail i (by omega) (by simpa [hys] using h1)
        have e1 : y[i] = false := by simpa [h1] using this
        rw [e1]
        simp [cutArr, Array.getElem_append, hi]
    have hd : (l.drop n).length = l.length - n := by simp
    have := wpAny_of_seq (P := P) (md := .any) (ops := l.toArray) (Q' := Q) (l.drop n) n y a w (fun j => by simp [List.getElem?_drop]) (by rw [hd, hyc]; exact hq) h.2
    rw [hd] at this
    rwa [Nat.zero_add]
  | succ f ih =>
    intro x y a w hx hy hxy hf h
    have hpos : false ∈ x.toList := List.count_pos_iff.1 (by omega)
    obtain ⟨i0, hi0, he0⟩ := List.getElem_of_mem hpos
    have hi0x : i0 < x.size := by simpa using hi0
    have hu0 : x.getD i0 true = false := by simpa [hi0x] using he0
    have hys : y.size = l.length := by simpa using hy.size
    rw [show f + 1 + (l.length - n) = (f + (l.length - n)) + 1 by omega]
    have hsame : ∀ i, i < n → y.getD i false = x.getD i false := fun i hi => by
      rw [← getD_both' (by omega), ← getD_both' (by omega)]; exact hxy i hi
    have hmem : ∀ i, i ∈ Region.ready .any l.toArray y → i < n := by
      intro i hi
      rcases Nat.lt_or_ge i n with h1 | h1
      · exact h1
      · exact absurd hi (tail_waits hs hc (by simpa using hn) hy _ i0 rfl (by omega) (by rw [hxy i0 (by omega)]; exact hu0) i h1)
    refine ⟨fun h0 => ?_, fun i hi => ?_⟩
    · obtain ⟨j, hj⟩ := some_ready hB (by omega) hx i0 (by omega) hu0
      obtain ⟨a1, o, a2, a3⟩ := mem_ready.1 hj
      have hjn : j < n := by
        have := (Array.getElem?_eq_some_iff.1 a2).1
        simp at this; omega
      rw [head_at hjn] at a2
      have : j ∈ Region.ready .any l.toArray y := mem_ready.2 ⟨by rw [hxy j hjn]; exact a1, o, a2, fun e he hb => by
        have := (backB_spec hB a2).1 e he hb
        rw [hsame e.on (by omega)]; exact a3 e he hb⟩
      rw [h0] at this
      cases this
    · have hin := hmem i hi
      obtain ⟨a1, o, a2, a3⟩ := mem_ready.1 hi
      have hih : i ∈ Region.ready .any (l.take n).toArray x := mem_ready.2 ⟨by rw [← hxy i hin]; exact a1, o, by rw [head_at hin]; exact a2, fun e he hb => by
        have := (backB_spec hB a2).1 e he hb
        rw [← hsame e.on (by omega)]; exact a3 e he hb⟩
      refine wpOp_head hB hin (fun a' w' hk => ?_) (h.2 i hih)
      have hxi : x.getD i true = false := by rw [← hxy i hin]; exact a1
      have hil : i < x.toList.length := by simpa [hx] using hin
      refine ih _ _ a' w' (by simpa using hx) (hy.set hi hin) (fun j hj => ?_) ?_ hk
      · by_cases hij : i = j
        · subst hij
          simp [hys, show i < l.length by omega, hx, hin]
        · rw [getD_set_ne true hij, getD_set_ne true hij]; exact hxy j hj
      · have hxe : x.toList[i] = false := by
          have : x[i]'(by omega) = false := by simpa [show i < x.size by omega] using hxi
          simpa using this
        rw [Array.toList_setIfInBounds, List.count_set hil, hxe, hf]
        simp

/-- **The cut.** -/
theorem wp_region_held_split {id : Nat} {a : Act} {w : World} {l : List Oper} (n : Nat) (S : World → Prop) (hm : P.follows .mixedOrders = true) (hB : splitB l n = true) (hS : S w.drew)
    (h : S w.drew → wpAnyH P .any (l.take n).toArray (headPost P l n Q) S n (Array.replicate n false) a w.drew) : (Code.region id l.toArray true).wp P Q a w := by
  simp only [splitB, Bool.and_eq_true, decide_eq_true_eq] at hB
  obtain ⟨⟨⟨⟨hn, hs⟩, hc⟩, hb⟩, hq⟩ := hB
  refine wp_region_any hm ?_
  have inv0 : HeadInv .any l.toArray n (Array.replicate l.toArray.size false) :=
    ⟨by simp, fun j oj _ hl => (by rw [getD_replicate_false] at hl; cases hl), fun t _ ht => getD_in (by simpa using ht) (getD_replicate_false _ _)⟩
  have := wpAny_split hn hs hc hb hq n (Array.replicate n false) (Array.replicate l.toArray.size false) a w.drew (by simp) inv0 (fun i hi => by
    rw [getD_both' (by simp; omega), getD_both' (by simp; omega), getD_replicate_false, getD_replicate_false]) (by simp) (wpAny_of_held _ _ _ _ (h hS))
  have e : n + (l.length - n) = l.toArray.size := by rw [List.size_toArray]; omega
  rw [e] at this
  exact this
end
end Go.Proofs.YtjianickjahdnaaDoor
namespace Go.Proofs.YtjianickjahdnaaDoor
open Go.RowKit
set_option linter.unusedVariables false
set_option linter.unusedSimpArgs false

theorem chg_put4 {W W' : World} {b k : Nat} {v : Value} (h : Chg (fun j => j = b) W W') : Chg (fun j => j = b) W (W'.setCell ⟨b, k, none⟩ v) := h.trans' (show Chg (fun j => j = b) W' (W'.setCell ⟨b, k, none⟩ v) from Chg.setCell W' ⟨b, k, none⟩ v)
/-- The cells of a block stored one after the other. -/
theorem store4 {w : World} {g T : Nat} {u0 u1 u2 u3 : Value} (b0 : w.heap[g]? = some (.cells #[u0, u1, u2, u3] T (0, 0))) (v0 v1 v2 v3 : Value) :
    w.cell? ⟨g, 0, none⟩ = some u0 ∧ w.frozen? ⟨g, 0, none⟩ = false ∧
    (w.setCell ⟨g, 0, none⟩ v0).cell? ⟨g, 1, none⟩ = some u1 ∧ (w.setCell ⟨g, 0, none⟩ v0).frozen? ⟨g, 1, none⟩ = false ∧
    ((w.setCell ⟨g, 0, none⟩ v0).setCell ⟨g, 1, none⟩ v1).cell? ⟨g, 2, none⟩ = some u2 ∧ ((w.setCell ⟨g, 0, none⟩ v0).setCell ⟨g, 1, none⟩ v1).frozen? ⟨g, 2, none⟩ = false ∧
    (((w.setCell ⟨g, 0, none⟩ v0).setCell ⟨g, 1, none⟩ v1).setCell ⟨g, 2, none⟩ v2).cell? ⟨g, 3, none⟩ = some u3 ∧ (((w.setCell ⟨g, 0, none⟩ v0).setCell ⟨g, 1, none⟩ v1).setCell ⟨g, 2, none⟩ v2).frozen? ⟨g, 3, none⟩ = false ∧
    ((((w.setCell ⟨g, 0, none⟩ v0).setCell ⟨g, 1, none⟩ v1).setCell ⟨g, 2, none⟩ v2).setCell ⟨g, 3, none⟩ v3).heap[g]? = some (.cells #[v0, v1, v2, v3] T (0, 0)) ∧ Chg (fun k => k = g) w ((((w.setCell ⟨g, 0, none⟩ v0).setCell ⟨g, 1, none⟩ v1).setCell ⟨g, 2, none⟩ v2).setCell ⟨g, 3, none⟩ v3) := by
  have c0 : w.cell? ⟨g, 0, none⟩ = some u0 := cell_of_block b0 rfl
  have f0 : w.frozen? ⟨g, 0, none⟩ = false := frozen_of_block b0
  have b1 : (w.setCell ⟨g, 0, none⟩ v0).heap[g]? = some (.cells #[v0, u1, u2, u3] T (0, 0)) := setCell_block (i := 0) v0 b0
  have c1 : (w.setCell ⟨g, 0, none⟩ v0).cell? ⟨g, 1, none⟩ = some u1 := cell_of_block b1 rfl
  have f1 : (w.setCell ⟨g, 0, none⟩ v0).frozen? ⟨g, 1, none⟩ = false := frozen_of_block b1
  have b2 : ((w.setCell ⟨g, 0, none⟩ v0).setCell ⟨g, 1, none⟩ v1).heap[g]? = some (.cells #[v0, v1, u2, u3] T (0, 0)) := setCell_block (i := 1) v1 b1
  have c2 : ((w.setCell ⟨g, 0, none⟩ v0).setCell ⟨g, 1, none⟩ v1).cell? ⟨g, 2, none⟩ = some u2 := cell_of_block b2 rfl
  have f2 : ((w.setCell ⟨g, 0, none⟩ v0).setCell ⟨g, 1, none⟩ v1).frozen? ⟨g, 2, none⟩ = false := frozen_of_block b2
  have b3 : (((w.setCell ⟨g, 0, none⟩ v0).setCell ⟨g, 1, none⟩ v1).setCell ⟨g, 2, none⟩ v2).heap[g]? = some (.cells #[v0, v1, v2, u3] T (0, 0)) := setCell_block (i := 2) v2 b2
  have c3 : (((w.setCell ⟨g, 0, none⟩ v0).setCell ⟨g, 1, none⟩ v1).setCell ⟨g, 2, none⟩ v2).cell? ⟨g, 3, none⟩ = some u3 := cell_of_block b3 rfl
  have f3 : (((w.setCell ⟨g, 0, none⟩ v0).setCell ⟨g, 1, none⟩ v1).setCell ⟨g, 2, none⟩ v2).frozen? ⟨g, 3, none⟩ = false := frozen_of_block b3
  have b4 : ((((w.setCell ⟨g, 0, none⟩ v0).setCell ⟨g, 1, none⟩ v1).setCell ⟨g, 2, none⟩ v2).setCell ⟨g, 3, none⟩ v3).heap[g]? = some (.cells #[v0, v1, v2, v3] T (0, 0)) := setCell_block (i := 3) v3 b3
  exact ⟨c0, f0, c1, f1, c2, f2, c3, f3, b4, chg_put4 (chg_put4 (chg_put4 (chg_put4 (Chg.refl _ _))))⟩

set_option maxHeartbeats 3200000 in
set_option maxRecDepth 100000 in
theorem normal_ref (h : Int) (w : World) :
    Calls Tryd.prog 37 #[.agg #[.int .i64 5, .int .i64 0, .string ⟨#[]⟩, .int .i64 h]] w fun e w' => e = .returned (.agg #[.int .i64 5, .int .i64 0, .string ⟨#[]⟩, .int .i64 h]) ∧ Chg (fun _ => False) w w' := by
  have hc2 := (Chg.alloc (fun _ => False) w (.cells #[.int .i64 5, .int .i64 0, .string ⟨#[]⟩, .int .i64 h] 36)).allocR (.cells #[.int .i64 0, .int .i64 0, .string ⟨#[]⟩, .int .i64 0] 36)
  have hb := alloc_block (w.alloc (.cells #[.int .i64 5, .int .i64 0, .string ⟨#[]⟩, .int .i64 h] 36)) (.cells #[.int .i64 0, .int .i64 0, .string ⟨#[]⟩, .int .i64 0] 36)
  have hs1 : (w.alloc (.cells #[.int .i64 5, .int .i64 0, .string ⟨#[]⟩, .int .i64 h] 36)).heap.size = w.heap.size + 1 := Array.size_push ..
  rw [hs1] at hb
  have HB := Lib.hid hb
  have HC := Lib.hid hc2
  have kb := alloc_block w (.cells #[.int .i64 5, .int .i64 0, .string ⟨#[]⟩, .int .i64 h] 36)
  have k0 := (Chg.alloc (fun _ => False) (w.alloc (.cells #[.int .i64 5, .int .i64 0, .string ⟨#[]⟩, .int .i64 h] 36)) (.cells #[.int .i64 0, .int .i64 0, .string ⟨#[]⟩, .int .i64 0] 36)).cell (cell_of_block (i := 0) kb rfl)
  have k3 := (Chg.alloc (fun _ => False) (w.alloc (.cells #[.int .i64 5, .int .i64 0, .string ⟨#[]⟩, .int .i64 h] 36)) (.cells #[.int .i64 0, .int .i64 0, .string ⟨#[]⟩, .int .i64 0] 36)).cell (cell_of_block (i := 3) kb rfl)
  simp only [List.getElem_toArray, List.getElem_cons_zero, List.getElem_cons_succ] at k0 k3
  have HK0 := Lib.hid k0
  have HK3 := Lib.hid k3
  clear hb hc2 hs1 kb k0 k3
  go_enter Tryd.func37, Tryd.ntmps37
  go_upto_region 1 with fail
  generalize ((w.alloc (.cells #[.int .i64 5, .int .i64 0, .string ⟨#[]⟩, .int .i64 h] 36)).alloc (.cells #[.int .i64 0, .int .i64 0, .string ⟨#[]⟩, .int .i64 0] 36)) = w3 at *
  generalize hb2e : w.heap.size + 1 = b2 at *
  have HB2 := Lib.hid hb2e
  have k0 := HK0.out
  have k3 := HK3.out
  clear hb2e
  go_wp2_with fail
  refine (vref_any h _).mono ?_
  rintro e wf ⟨rfl, hcf⟩
  have hb4 := hcf.keep HB.out (fun x => x)
  obtain ⟨z0, q0, z1, q1, z2, q2, z3, q3, hbf, hcs⟩ := store4 hb4 (.int .i64 5) (.int .i64 0) (.string ⟨#[]⟩) (.int .i64 h)
  go_wp2_with fail
  generalize ((((wf.setCell ⟨b2, 0, none⟩ (.int .i64 5)).setCell ⟨b2, 1, none⟩ (.int .i64 0)).setCell ⟨b2, 2, none⟩ (.string ⟨#[]⟩)).setCell ⟨b2, 3, none⟩ (.int .i64 h)) = wz at *
  refine bodyPost_ret (results_cell_row rfl _ _ b2 _ _ _ _ (by rfl) hbf Tryd.underlying36 rfl (by kernel_rfl)) rfl ?_
  exact ⟨rfl, (HC.out.trans' hcf).trans hcs (fun _ _ x => x) (fun k hk e => by have := HB2.out; omega)⟩
end Go.Proofs.YtjianickjahdnaaDoor
