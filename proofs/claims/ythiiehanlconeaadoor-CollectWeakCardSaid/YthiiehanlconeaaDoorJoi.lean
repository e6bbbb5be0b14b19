/-
  The law's join: a link added to both graphs.
-/
import Derived.Test.YthiiehanlconeaaDoorJoh
import Derived.Test.YthiiehanlconeaaDoorDgt
import Derived.Test.YthiiehanlconeaaDoorRfa
import Derived.Test.YthiiehanlconeaaDoorHnd
namespace Go.Proofs.YthiiehanlconeaaDoor
open Go.RowKit
set_option linter.unusedVariables false
set_option linter.unusedSimpArgs false

structure Lk where
  frm : Nat
  sort : Nat
  to_ : Nat
  by_ : Nat
def Lk.cells (k : Lk) : List Value := [.int .u8 (k.frm : Int), .int .u8 (k.sort : Int), .int .u8 (k.to_ : Int), .int .u8 (k.by_ : Int)]
structure LkOk (k : Lk) : Prop where
  frm : k.frm < 256
  sort : k.sort < 256
  to_ : k.to_ < 256
  by_ : k.by_ < 256
def refV (h : Int) : Val := ⟨5, 0, ⟨#[]⟩, h⟩
def zVal : Val := ⟨0, 0, ⟨#[]⟩, 0⟩
def frameM (c : Nat) (h : Int) : Frm :=
  { kind := 0, func := 0, pc := 0, tkind := if c = 0 then 5 else 0, tint := 0, tstr := ⟨#[]⟩, tref := if c = 0 then h else 0, locals := if c = 1 then [⟨3, 1, ⟨#[]⟩, 0⟩, refV h] else [], stack := if c = 2 then [refV h] else [],
    env := if c = 3 then h else 0, scope := 0, mode := 0, object := if c = 4 then h else 0, host := 0, phase := 0, values := if c = 0 ∨ c = 1 ∨ c = 2 ∨ c = 3 ∨ c = 4 then [] else [refV h] }
def joinO (r c6 : Nat) (weak has : Bool) (key : ByteArray) (hb hc : Int) (o : Obj) : Option Obj :=
  if r = 0 then some { o with props := o.props ++ [⟨key, 5, 0, ⟨#[]⟩, hb⟩] }
  else if r = 1 then some { o with elems := o.elems ++ [refV hb] }
  else if r = 2 then (if weak then none else some { o with data := o.data ++ [refV hb] })
  else if r = 3 then (if o.env ≠ 0 then none else some { o with env := hb })
  else if r = 4 then (if o.proto ≠ 0 then none else some { o with proto := hb })
  else if r = 5 then some { o with saved := o.saved ++ [frameM c6 hb] }
  else if weak = false ∨ has = true then none else some { o with data := o.data ++ [refV hc, refV hb] }
def joinX (r b c : Nat) (x : RObj) : RObj := if r < 6 then { x with strong := x.strong ++ [b] } else { x with keys := x.keys ++ [c], vals := x.vals ++ [b] }
def joinM (key : ByteArray) (n : Nat) (L : List Int) (hp : Hp) (xs : List RObj) (k : Lk) : Hp × List RObj :=
  match joinO (k.sort % 7) (k.by_ % 6) (xs.getD (k.frm % n) noR).weak (decide (k.by_ % n ∈ (xs.getD (k.frm % n) noR).keys)) key (L.getD (k.to_ % n) 0) (L.getD (k.by_ % n) 0) (hp.slots.getD (12 + k.frm % n) noSlt).obj with
  | none => (hp, xs)
  | some o => (putO hp (12 + k.frm % n) o, xs.set (k.frm % n) (joinX (k.sort % 7) (k.to_ % n) (k.by_ % n) (xs.getD (k.frm % n) noR)))
theorem joinM_some {key : ByteArray} {n : Nat} {L : List Int} {hp : Hp} {xs : List RObj} {k : Lk} {a b c r c6 : Nat} {y : Obj} (ha : k.frm % n = a) (hb : k.to_ % n = b) (hc : k.by_ % n = c) (hr : k.sort % 7 = r) (h6 : k.by_ % 6 = c6)
    (h : joinO r c6 (xs.getD a noR).weak (decide (c ∈ (xs.getD a noR).keys)) key (L.getD b 0) (L.getD c 0) (hp.slots.getD (12 + a) noSlt).obj = some y) : joinM key n L hp xs k = (putO hp (12 + a) y, xs.set a (joinX r b c (xs.getD a noR))) := by
  unfold joinM
  rw [ha, hb, hc, hr, h6, h]
theorem joinM_none {key : ByteArray} {n : Nat} {L : List Int} {hp : Hp} {xs : List RObj} {k : Lk} {a b c r c6 : Nat} (ha : k.frm % n = a) (hb : k.to_ % n = b) (hc : k.by_ % n = c) (hr : k.sort % 7 = r) (h6 : k.by_ % 6 = c6)
    (h : joinO r c6 (xs.getD a noR).weak (decide (c ∈ (xs.getD a noR).keys)) key (L.getD b 0) (L.getD c 0) (hp.slots.getD (12 + a) noSlt).obj = none) : joinM key n L hp xs k = (hp, xs) := by
  unfold joinM
  rw [ha, hb, hc, hr, h6, h]
theorem frm_mk {w : World} {vl vs vv : Value} {Fl Fs Fv : List Nat} {s : Frm} (hl : (valR.row 38).own w [vl] s.locals Fl) (hs : (valR.row 38).own w [vs] s.stack Fs) (hv : (valR.row 38).own w [vv] s.values Fv) :
    frmR.own w [.int .i64 s.kind, .int .i64 s.func, .int .i64 s.pc, .int .i64 s.tkind, .int .i64 s.tint, .string s.tstr, .int .i64 s.tref, vl, vs, .int .i64 s.env, .int .i64 s.scope, .int .i64 s.mode, .int .i64 s.object, .int .i64 s.host, .int .i64 s.phase, vv] s (Fl ++ Fs ++ Fv) := ⟨vl, vs, vv, Fl, Fs, Fv, rfl, hl, hs, hv, rfl⟩
theorem vals_nil (w : World) : (valR.row 38).own w [.slice none 0 0] [] [] := ⟨_, [], [], rfl, RowAt.nil _ _ _, .nil, rfl⟩
theorem vals_len : ∀ l : List Val, (l.flatMap Val.cells).length = l.length * 4
  | [] => rfl
  | a :: l => by rw [List.flatMap_cons, List.length_append, vals_len l, Val.len, List.length_cons]; omega
theorem vals_late (W : World) (l : List Val) (bf j : Nat) (v : Value) (hn : l.length ≤ maxLen) (hb : bf ≠ W.heap.size) :
    (valR.row 38).own ((W.alloc (.cells (l.flatMap Val.cells).toArray 38)).setCell ⟨bf, j, none⟩ v) [.slice (some ⟨W.heap.size, 0, none⟩) l.length l.length] l [W.heap.size] :=
  (valR.row 38).chg (ofRow_flat (n := 4) (f := Val.cells) (hf := Val.len) (RowAt.lit (W := W) _ (vals_len l) hn)) (Chg.setCell _ _ _) (fun k hk e => hb (e.symm.trans (List.mem_singleton.1 hk)))
theorem one_late (W : World) (h : Int) :
    (valR.row 38).own (W.alloc (.cells #[.int .i64 5, .int .i64 0, .string ⟨#[]⟩, .int .i64 h] 38)) [.slice (some ⟨W.heap.size, 0, none⟩) 1 1] [refV h] [W.heap.size] :=
  ofRow_flat (n := 4) (f := Val.cells) (hf := Val.len) (l := [refV h]) (RowAt.lit (W := W) _ (vals_len [refV h]) (by simp [maxLen]))
theorem row_slice {β : Type} {B : Rep β} {e : TypeId} {w : World} {v : Value} {l : List β} {F : List Nat} (h : (B.row e).own w [v] l F) : ∃ p c, v = .slice p l.length c := by
  obtain ⟨v', xs, Fs, e', hr, -⟩ := h
  cases e'
  obtain ⟨p, c, rfl, -⟩ := hr.slice
  exact ⟨p, c, rfl⟩
theorem frm_late {W6 wd : World} {FBc : Array Value} {T bf j : Nat} {v : Value} {NB : _root_.Go.Obj} (h1 : Chg (fun _ => False) W6 wd) (hb : wd.heap[bf]? = some (.cells FBc T (0, 0))) (hbf : W6.heap.size ≤ bf) :
    Chg (fun _ => False) W6 ((wd.alloc NB).setCell ⟨bf, j, none⟩ v) ∧ ((wd.alloc NB).setCell ⟨bf, j, none⟩ v).heap[bf]? = some (.cells (FBc.setIfInBounds j v) T (0, 0)) :=
  ⟨(h1.allocR NB).trans (Chg.setCell _ _ _) (fun _ _ x => x) (fun i hi e => by have e' : i = bf := e; omega), setCell_block v ((Chg.alloc (fun _ => False) wd NB).keep hb (fun x => x))⟩
theorem mem_natJ {c : Nat} {l : List Nat} : ((c : Int) ∈ natI l) ↔ c ∈ l := by
  unfold natI
  rw [List.mem_map]
  constructor
  · rintro ⟨a, h, e⟩
    rwa [show c = a from by omega]
  · exact fun h => ⟨c, h, rfl⟩
theorem out_own {W W' : World} {v : Value} {l : List Nat} (h : OutI W W' v (natI l)) (h0 : 0 < l.length) : ∃ bs os c, v = .slice (some ⟨bs, os, none⟩) l.length c ∧ (natR.row 3).own W' [v] l [bs] ∧ W.heap.size ≤ bs := by
  obtain ⟨bs, os, c, rfl, -, -⟩ := h.row.addr (by rw [natI_len]; exact h0)
  have hr := h.row
  have e : intC (natI l) = l.flatMap fun n : Nat => [Value.int .i64 (n : Int)] := by rw [flatMap_one]; unfold intC natI; rw [List.map_map]; rfl
  rw [e, natI_len] at hr
  have := ofRow_flat (n := 1) (f := fun n : Nat => [Value.int .i64 (n : Int)]) (hf := fun _ => rfl) (l := l) hr
  rw [natI_len]
  exact ⟨bs, os, c, rfl, this, h.lo bs rfl⟩
/-- The block of a row in a field lies in the thing's footprint. -/
theorem Here.ownIn {α β : Type} {A : Rep α} {B : Rep β} {e : TypeId} {w : World} {b o k : Nat} {a : α} {F : List Nat} {get : α → List β} {set : α → List β → α} (fl : FieldOf A (B.row e) k get set) (hA : 0 < A.n) (H : Here A w b o a F) {v : Value} (hc : w.cell? ⟨b, o + k, none⟩ = some v) {j : Nat} (hj : v.ownBlock = some j) : j ∈ F := by
  obtain ⟨G, h1, h2, -⟩ := H.field fl hA
  obtain ⟨v', xs, Fs, hc', hopen⟩ := h1.openRow
  rw [hc] at hc'
  cases hc'
  exact h2 _ (by rw [hopen.fp]; exact List.mem_append_left _ (mem_ownL.2 hj))
theorem cell_kept {S : Nat → Prop} {w w' : World} (hc : Chg S w w') {k j : Nat} {v : Value} (hn : ¬ S k) (h : w.cell? ⟨k, j, none⟩ = some v) : w'.cell? ⟨k, j, none⟩ = some v := by
  cases hb : w.heap[k]? with
  | none => simp [World.cell?, hb] at h
  | some o =>
    have hb' := hc.keep hb hn
    simp only [World.cell?, hb, hb'] at h ⊢
    exact h
/-- The two graphs have n objects each. -/
structure GOk (n : Nat) (L : List Int) (hp : Hp) (xs : List RObj) : Prop where
  pos : 0 < n
  few : n ≤ 1000
  L : L = (List.range n).map fun i => handleM hp.base hp.stride ((12 + i : Nat) : Int)
  xs : xs.length = n
  slots : hp.slots.length = 12 + n
  used : ∀ s (h : s < hp.slots.length), hp.slots[s].used = true

end Go.Proofs.YthiiehanlconeaaDoor
