/-
  machine.Push; the queue of jobs and its Push.
  The map of what was seen: map[int]bool, made by the call itself.
  The law's graph, what its walk needs: the objects as they are made.
  collect.Roots.
-/
import Derived.Test.YthiiehanlconeaaDoorPCollectRingsd
import Derived.Test.YthiiehanlconeaaDoorPCollectRingse
import Derived.Test.YthiiehanlconeaaDoorPCollectRingsb
import Derived.Maps.Own
import Derived.Maps.Views
import Derived.Test.YthiiehanlconeaaDoorPCollectRingsc
import Derived.Test.YthiiehanlconeaaDoorPCollectRingsa
namespace Go.Proofs.YthiiehanlconeaaDoor
open Go.RowKit
set_option linter.unusedVariables false
set_option linter.unusedSimpArgs false

structure Job where
  kind : Int
  values : List Val
def Job.Own (w : World) (cs : List Value) (s : Job) (F : List Nat) : Prop :=
  ∃ vvalues, ∃ Fvalues, cs = [.int .i64 s.kind, vvalues] ∧ ((valR).row 38).own w [vvalues] s.values Fvalues ∧ F = Fvalues
def jobR : Rep Job where
  n := 2
  own := Job.Own
  len := by rintro w cs s F ⟨vvalues, _, rfl, hvalues, rfl⟩; rfl
  lt := by
    rintro w cs s F ⟨vvalues, _, rfl, hvalues, rfl⟩ k hk
    · exact ((valR).row 38).lt hvalues k hk
  keep := by
    rintro w w2 cs s F ⟨vvalues, _, rfl, hvalues, rfl⟩ hk
    exact ⟨_, _, rfl, ((valR).row 38).keep hvalues (fun k hm => hk k (by simp [hm])), rfl⟩
theorem jobR_kind : FieldOf jobR (Rep.int .i64) 0 (·.kind) (fun s y => { s with kind := y }) := by
  refine ⟨by show 0 + 1 ≤ 2; omega, ?_⟩
  rintro w cs s F ⟨vvalues, _, rfl, hvalues, rfl⟩
  refine ⟨F, [], [], by simp, ⟨rfl, rfl⟩, fun w2 ys y G hk hy => ?_⟩
  obtain ⟨rfl, rfl⟩ := hy
  exact ⟨_, _, rfl, ((valR).row 38).keep hvalues (fun k hm => hk k (by simp [hm])), by simp⟩
theorem jobR_values : FieldOf jobR ((valR).row 38) 1 (·.values) (fun s y => { s with values := y }) := by
  refine ⟨by show 1 + 1 ≤ 2; omega, ?_⟩
  rintro w cs s F ⟨vvalues, _, rfl, hvalues, rfl⟩
  refine ⟨[], F, [], by simp, hvalues, fun w2 ys y G hk hy => ?_⟩
  obtain ⟨y0, rfl⟩ : ∃ y0, ys = [y0] := List.length_eq_one_iff.1 (((valR).row 38).len hy)
  exact ⟨_, G, rfl, hy, by simp⟩

theorem elem_job : Elem Tryd.prog 88 2 32 := elem_of (by kernel_rfl)
theorem valC_ones (l : List Val) : Ones (l.flatMap Val.cells) := fun u hu => by
  obtain ⟨a, -, hu⟩ := List.mem_flatMap.1 hu
  unfold Val.cells at hu
  simp only [List.mem_cons, List.not_mem_nil, or_false] at hu
  rcases hu with rfl | rfl | rfl | rfl <;> rfl
def pushF (host phase : Int) (vals : List Val) : Frm := ⟨2, 0, 0, 0, 0, ⟨#[]⟩, 0, [], [], 0, 0, 0, 0, host, phase, vals⟩
/-- A row at a place, about to be lengthened by one; and the way back. -/
theorem Here.rowAppending {β : Type} {B : Rep β} {e : TypeId} {w : World} {b o : Nat} {l : List β} {F : List Nat} (H : Here (B.row e) w b o l F) :
    ∃ p cap xs Fs, w.cell? ⟨b, o, none⟩ = some (.slice p l.length cap) ∧ RowOpen B e w (.slice p l.length cap) l F xs Fs ∧ w.frozen? ⟨b, o, none⟩ = false ∧
      (∀ w1 w3, Chg (fun _ => False) w w1 → Chg (fun j => (Value.slice p l.length cap).ownBlock = some j) w1 w3 → w3.cell? ⟨b, o, none⟩ = some (.slice p l.length cap) ∧ w3.frozen? ⟨b, o, none⟩ = false) ∧
      ∀ w1 w3 x y G v2, Chg (fun _ => False) w w1 → B.own w1 x y G → (∀ j ∈ G, w.heap.size ≤ j) → G.Nodup → RowAt w3 e B.n v2 (l.length + 1) (xs.flatten ++ x) →
        Chg (fun j => (Value.slice p l.length cap).ownBlock = some j) w1 w3 → (∀ j, v2.ownBlock = some j → (Value.slice p l.length cap).ownBlock = some j ∨ w1.heap.size ≤ j) →
        Post (B.row e) w b o (l ++ [y]) F (w3.setCell ⟨b, o, none⟩ v2) := by
  obtain ⟨p, cap, xs, Fs, q1, q2, -, -, q5, q6⟩ := H.appending
  exact ⟨p, cap, xs, Fs, q1, q2, q5, q6, fun w1 w3 x y G v2 k1 k2 k3 k4 k5 k6 k7 => q2.push H k1 k2 k3 k4 k5 k6 k7⟩
end Go.Proofs.YthiiehanlconeaaDoor
namespace Go.Proofs.YthiiehanlconeaaDoor
open Go.RowKit
set_option linter.unusedVariables false

structure Seen (W : World) (b n : Nat) (S : List Int) : Prop where
  ex : ∃ D : DataW Unit, W.ownsMap Tryd.prog 3 (plainElem Tryd.prog 4) b n D ∧ Maps.IsMap D ∧ ∀ k : Int, (Lit.int .i64 k).wf = true → D.atKey (.int .i64 k) (.lit (.bool false)) = .lit (.bool (decide (k ∈ S)))
theorem i64_wf {k : Int} (h : -9223372036854775808 ≤ k ∧ k ≤ 9223372036854775807) : (Lit.int .i64 k).wf = true := by
  have e1 : IntKind.i64.min = -9223372036854775808 := by decide
  have e2 : IntKind.i64.max = 9223372036854775807 := by decide
  simp [Lit.wf, e1, e2, h]
theorem plainElem_bool_inv {H : Type} {P : Program} {e : TypeId} (he : P.underlying e = some .bool) {v : Value} {z : DataW H × List MemPlace} (h : plainElem P e v = some z) : ∃ x, v = .bool x ∧ z = (.lit (.bool x), []) := by
  unfold plainElem at h
  rw [he] at h
  cases v <;> simp at h
  subst h
  exact ⟨_, rfl, rfl⟩
theorem seen_made (W : World) : Seen (W.alloc (.map #[] 0)) W.heap.size 0 [] :=
  ⟨.map [], World.ownsMap_made W Tryd.prog 3 _, ⟨[], rfl⟩, fun k _ => by rw [WideAt.atKey_none _ (by simp)]; simp⟩
set_option maxRecDepth 100000 in
theorem zero_bool (W : World) : (zeroValue 4).run Tryd.prog W = .ok (.bool false) W := by kernel_rfl
section
variable {W W' : World} {b n : Nat} {S : List Int}
theorem Seen.kept (h : Seen W b n S) {Q : Nat → Prop} (hc : Chg Q W W') (hb : ¬ Q b) : Seen W' b n S := by
  obtain ⟨D, ⟨es, clock, h1, r⟩, h2, h3⟩ := h.ex
  exact ⟨D, ⟨es, clock, hc.keep h1 hb, r⟩, h2, h3⟩
theorem Seen.lt (h : Seen W b n S) : b < W.heap.size := by
  obtain ⟨D, h1, -⟩ := h.ex
  exact h1.lt
theorem Seen.look (h : Seen W b n S) {k : Int} (hk : -9223372036854775808 ≤ k ∧ k ≤ 9223372036854775807) : (Instr.lookup 90 (.map (some b)) (.int .i64 k) false).run Tryd.prog W = .ok (.bool (decide (k ∈ S))) W := by
  obtain ⟨D, h1, h2, h3⟩ := h.ex
  obtain ⟨v, ps, hrun, hR⟩ := h1.lookup (Maps.int_keyed Tryd.underlying3) Tryd.underlying90 (z := .bool false) (zero_bool W) (plainElem_bool Tryd.underlying4 false) (Maps.keyOf_int_mk Tryd.underlying3 (i64_wf hk))
  rw [h3 k (i64_wf hk)] at hR
  obtain ⟨x, rfl, e⟩ := plainElem_bool_inv Tryd.underlying4 hR
  rw [hrun]
  simp only [Prod.mk.injEq, DataW.lit.injEq, Lit.bool.injEq] at e
  rw [← e.1]
theorem Seen.put (h : Seen W b n S) {k : Int} (hk : -9223372036854775808 ≤ k ∧ k ≤ 9223372036854775807) (hn : n < maxLen) : ∃ W', (Instr.mapUpdate 90 (.map (some b)) (.int .i64 k) (.bool true)).run Tryd.prog W = .ok () W' ∧ Seen W' b (n + 1) (k :: S) ∧ Chg (fun j => j = b) W W' := by
  obtain ⟨D, h1, h2, h3⟩ := h.ex
  obtain ⟨W', hrun, hown, g⟩ := h1.update (Maps.int_keyed Tryd.underlying3) Tryd.underlying90 hn (Maps.keyOf_int_mk Tryd.underlying3 (i64_wf hk)) (plainElem_bool Tryd.underlying4 true)
  refine ⟨W', hrun, ⟨_, hown, ?_, fun q hq => ?_⟩, g.os, g.tape, g.output, g.size, fun j hj hn => g.block j hj (fun e => hn (Option.some.inj e))⟩
  · obtain ⟨l, rfl⟩ := h2
    rw [DataW.put_eq]
    exact ⟨_, rfl⟩
  · by_cases e : q = k
    · subst e
      rw [Maps.atKey_put_same h2 ((Maps.int_keyed (P := Tryd.prog) Tryd.underlying3).key (Maps.keyOf_int_mk Tryd.underlying3 hq))]
      simp
    · rw [Maps.atKey_put_other (fun x => e (by injection x)), h3 q hq]
      simp [e]
end
end Go.Proofs.YthiiehanlconeaaDoor
namespace Go.Proofs.YthiiehanlconeaaDoor
open Go.RowKit
set_option linter.unusedVariables false
set_option linter.unusedSimpArgs false

theorem argRows_at {w : World} {v : Value} {n : Nat} {xs : List (List Value)} (h : ArgRows w v n xs) {i : Nat} (hi : i < xs.length) : ∃ g off cap, v = .slice (some ⟨g, off, none⟩) xs.length cap ∧ ∀ (j : Nat) (u : Value), xs[i][j]? = some u → w.cell? ⟨g, off + i * n + j, none⟩ = some u := by
  obtain ⟨a, cap, rfl, -, -, h3⟩ := h
  obtain ⟨g, off, rfl, hc⟩ := h3 (by intro e; subst e; simp at hi)
  exact ⟨g, off, cap, rfl, fun j u hu => hc i j _ u (List.getElem?_eq_getElem hi) hu⟩
/-! ### make of structs -/
theorem madeMany (z : Array Value) (hz : 0 < z.size) : ∀ n : Nat, (madeCells z (n * z.size)).toList = (List.replicate n z.toList).flatten
  | 0 => by simp [madeCells]
  | n + 1 => by
    have ih := madeMany z hz n
    have hl : ∀ N, (madeCells z N).toList = (List.range N).map fun i => z[i % z.size]! := fun N => by simp [madeCells]
    rw [hl] at ih ⊢
    rw [Nat.add_mul, Nat.one_mul, List.range_add, List.map_append, ih, List.replicate_succ', List.flatten_append, List.map_map]
    congr 1
    refine List.ext_getElem (by simp) fun i h1 h2 => ?_
    have hi : i < z.size := by simpa using h1
    rw [List.getElem_map, List.getElem_range]
    simp [Nat.mul_add_mod_self_right, Nat.mod_eq_of_lt hi, hi]
def roZ : List Value := [.bool false, .slice none 0 0, .slice none 0 0, .slice none 0 0]
theorem roNil_own (w : World) : robjR.own w roZ noR [] := ⟨_, _, _, [], [], [], rfl, ⟨_, [], [], rfl, RowAt.nil _ _ _, .nil, rfl⟩, ⟨_, [], [], rfl, RowAt.nil _ _ _, .nil, rfl⟩, ⟨_, [], [], rfl, RowAt.nil _ _ _, .nil, rfl⟩, rfl⟩
theorem each_same {α : Type} {A : Rep α} {w : World} {x : List Value} {a : α} (h : A.own w x a []) : ∀ n, Each A w (List.replicate n x) (List.replicate n a) (List.replicate n [])
  | 0 => .nil
  | n + 1 => .cons h (each_same h n)
/-! ### The objects as they are made -/
def kdOf (j : Nat) : Int := if j % 4 = 3 then 5 else 1
def sltI (j : Nat) : Slt := ⟨true, newObj (kdOf j) 0⟩
def hpI (b s : Int) (i : Nat) : Hp := { newM b s with slots := (newM b s).slots ++ (List.range i).map sltI, live := ((12 + i : Nat) : Int) }
def xoI (i j : Nat) : RObj := ⟨decide (j < i ∧ j % 4 = 3), [], [], []⟩
def xsI (n i : Nat) : List RObj := (List.range n).map (xoI i)
theorem newM_len (b s : Int) : (newM b s).slots.length = 12 := rfl
theorem hpI_len (b s : Int) (i : Nat) : (hpI b s i).slots.length = 12 + i := by
  show ((newM b s).slots ++ (List.range i).map sltI).length = _
  rw [List.length_append, newM_len]; simp
theorem hpI_zero (b s : Int) : hpI b s 0 = newM b s := by unfold hpI; simp [newM]
theorem hpI_succ (b s : Int) (i : Nat) (p : Int) : putO (addedM (hpI b s i) ⟨true, newObj (kdOf i) p⟩) (12 + i) (newObj (kdOf i) 0) = hpI b s (i + 1) := by
  have hl := hpI_len b s i
  have e1 : ((hpI b s i).slots ++ [(⟨true, newObj (kdOf i) p⟩ : Slt)]).getD (12 + i) noSlt = ⟨true, newObj (kdOf i) p⟩ := by
    rw [List.getD_eq_getElem?_getD, List.getElem?_append_right (by omega), hl, Nat.sub_self]; rfl
  have e2 : ((hpI b s i).slots ++ [(⟨true, newObj (kdOf i) p⟩ : Slt)]).set (12 + i) (sltI i) = (hpI b s i).slots ++ [sltI i] := by
    rw [List.set_append_right _ _ (by omega), hl, Nat.sub_self]; rfl
  have e3 : (hpI b s (i + 1)).slots = (hpI b s i).slots ++ [sltI i] := by
    show (newM b s).slots ++ (List.range (i + 1)).map sltI = ((newM b s).slots ++ (List.range i).map sltI) ++ [sltI i]
    rw [List.range_succ, List.map_append, List.append_assoc]; rfl
  unfold putO addedM
  simp only [e1]
  rw [show ({ (⟨true, newObj (kdOf i) p⟩ : Slt) with obj := newObj (kdOf i) 0 } : Slt) = sltI i from rfl, e2, ← e3]
  unfold hpI
  simp only [Hp.mk.injEq, true_and, and_true]
  omega
theorem xsI_len (n i : Nat) : (xsI n i).length = n := by simp [xsI]
theorem xsI_zero (n : Nat) : List.replicate n noR = xsI n 0 := by
  refine List.ext_getElem (by simp [xsI]) fun j h1 h2 => ?_
  simp [xsI, xoI, noR]
theorem xsI_set {n i : Nat} (hi : i < n) (h3 : i % 4 = 3) (h : i < (xsI n i).length) : (xsI n i).set i { (xsI n i)[i] with weak := true } = xsI n (i + 1) := by
  refine List.ext_getElem (by simp [xsI]) fun j h1 h2 => ?_
  rw [List.getElem_set]
  by_cases e : i = j
  · subst e; simp [xsI, xoI, h3]
  · rw [if_neg e]
    have : j < i ↔ j < i + 1 := by omega
    simp [xsI, xoI, this]
theorem xsI_skip {n i : Nat} (h3 : ¬ i % 4 = 3) : xsI n i = xsI n (i + 1) := by
  refine List.ext_getElem (by simp [xsI]) fun j h1 h2 => ?_
  have : (j < i ∧ j % 4 = 3) ↔ (j < i + 1 ∧ j % 4 = 3) := ⟨fun ⟨a, b⟩ => ⟨by omega, b⟩, fun ⟨a, b⟩ => ⟨by rcases Nat.lt_or_eq_of_le (Nat.le_of_lt_succ a) with x | x; exact x; subst x; exact absurd b h3, b⟩⟩
  simp [xsI, xoI, this]
def hsI (b s : Int) (i : Nat) : List Int := (List.range i).map (hOf b s)
theorem hsI_len (b s : Int) (i : Nat) : (hsI b s i).length = i := by simp [hsI]
theorem hsI_succ (b s : Int) (i : Nat) : hsI b s (i + 1) = hsI b s i ++ [hOf b s i] := by unfold hsI; rw [List.range_succ, List.map_append]; rfl
theorem gi_init (b s : Int) {n : Nat} (h0 : 0 < n) (hn : n ≤ 1000) : GI n b s (hsI b s n) (hpI b s n) (xsI n n) 0 0 := by
  have hl := hpI_len b s n
  refine ⟨⟨h0, hn, rfl, xsI_len n n, hl, fun i hi => ?_⟩, rfl, rfl, fun j hj => ?_, fun i hi => ?_, ⟨rfl, rfl, rfl, rfl, rfl⟩⟩
  · have : ∀ x ∈ (newM b s).slots ++ (List.range n).map sltI, x.used = true := fun x hx => by
      rcases List.mem_append.1 hx with h | h
      · obtain ⟨k, q, e, -⟩ := (newM_fresh b s x h).ex
        rw [e]
      · obtain ⟨j, -, rfl⟩ := List.mem_map.1 h
        rfl
    exact this _ (List.getElem_mem hi)
  · have e1 : (hpI b s n).slots.getD (12 + j) noSlt = sltI j := by
      show ((newM b s).slots ++ (List.range n).map sltI).getD (12 + j) noSlt = _
      rw [List.getD_eq_getElem?_getD, List.getElem?_append_right (by rw [newM_len]; omega), newM_len, show 12 + j - 12 = j from by omega, List.getElem?_map, List.getElem?_range hj]; rfl
    have e2 : (xsI n n).getD j noR = xoI n j := getD_map_range _ _ hj
    rw [e1, e2]
    by_cases h3 : j % 4 = 3
    · have e : xoI n j = ⟨decide ((((5 : Nat) : Int)) = 5), [], [], []⟩ := by simp [xoI, h3, hj]
      rw [e, show (sltI j).obj = newObj ((5 : Nat) : Int) 0 from by simp [sltI, kdOf, h3]]
      exact JO.init
    · have e : xoI n j = ⟨decide ((((1 : Nat) : Int)) = 5), [], [], []⟩ := by simp [xoI, h3]
      rw [e, show (sltI j).obj = newObj ((1 : Nat) : Int) 0 from by simp [sltI, kdOf, h3]]
      exact JO.init
  · show ((newM b s).slots ++ (List.range n).map sltI).getD i noSlt = _
    rw [List.getD_eq_getElem?_getD, List.getElem?_append_left (by rw [newM_len]; omega), List.getD_eq_getElem?_getD]

/-! ### Both graphs beside other blocks -/
section
variable {w0 W W' : World} {bh : Nat} {hp hp' : Hp} {vx : Value} {xs : List RObj} {Fh Fx B B' : List Nat} {S : Nat → Prop}
/-- A list that lies beside both graphs. -/
theorem OutI.kept {v : Value} {l : List Int} (h : OutI w0 W v l) (hk : KeepB (ownL v) W W') (hc : Chg (fun _ => False) w0 W') : OutI w0 W' v l :=
  ⟨h.row.keep fun k o hv ho => hk k (mem_ownL.2 hv) o ho, h.lo, hc⟩
end
end Go.Proofs.YthiiehanlconeaaDoor
namespace Go.Proofs.YthiiehanlconeaaDoor
open Go.RowKit
set_option linter.unusedVariables false
set_option linter.unusedSimpArgs false

def rootsL (hp : Hp) (frames : List Frm) (jobs : List Job) : List Int := ([hp.global, hp.texts] ++ hp.protos ++ framesM frames) ++ jobs.flatMap fun j => refsV j.values
def ddS (out : List Int) (o : Int) : List Int := if o = 0 ∨ o ∈ out then out else out ++ [o]
def dedupe (l : List Int) : List Int := l.foldl ddS []
theorem jobs_take {jobs : List Job} {k : Nat} (h : k < jobs.length) : (jobs.take (k + 1)).flatMap (fun j => refsV j.values) = (jobs.take k).flatMap (fun j => refsV j.values) ++ refsV jobs[k].values := by
  rw [List.take_succ_eq_append_getElem h, List.flatMap_append]; simp
theorem dd_take {l : List Int} {k : Nat} (h : k < l.length) : dedupe (l.take (k + 1)) = ddS (dedupe (l.take k)) l[k] := by
  unfold dedupe
  rw [List.take_succ_eq_append_getElem h, List.foldl_append]; rfl
theorem dd_len : ∀ (l : List Int) (out : List Int), (l.foldl ddS out).length ≤ out.length + l.length
  | [], out => by simp
  | a :: l, out => by
    have := dd_len l (ddS out a)
    have h2 : (ddS out a).length ≤ out.length + 1 := by unfold ddS; split <;> simp
    rw [List.foldl_cons, List.length_cons]; omega
theorem jobsRefs_len : ∀ l : List Job, (∀ j ∈ l, j.values.length ≤ 100) → (l.flatMap fun j => refsV j.values).length ≤ l.length * 100
  | [], _ => by simp
  | a :: l, h => by
    have h1 := jobsRefs_len l fun j hj => h j (by simp [hj])
    have h2 := refsV_len a.values
    have h3 := h a (by simp)
    rw [List.flatMap_cons, List.length_append, List.length_cons]; omega
theorem protoRow {w : World} {b o : Nat} {hp : Hp} {F : List Nat} (H : Here hpR w b o hp F) : ∃ a cap, w.cell? ⟨b, o + 7, none⟩ = some (.slice a hp.protos.length cap) ∧ RowAt w 3 1 (.slice a hp.protos.length cap) hp.protos.length (intC hp.protos) := by
  obtain ⟨cs, ⟨v1, v2, v3, F1, F2, F3, rfl, h1, h2, h3, -⟩, hc⟩ := H.cell
  obtain ⟨v', e, hr, -⟩ := row_flat.1 h3
  obtain rfl : v3 = v' := by simpa using e
  rw [flatMap_one] at hr
  have hr' : RowAt w 3 1 v3 hp.protos.length (intC hp.protos) := hr
  obtain ⟨a, cap, rfl, -⟩ := hr'.slice
  exact ⟨a, cap, hc 7 _ rfl, hr'⟩
set_option maxHeartbeats 6400000 in
set_option maxRecDepth 100000 in
theorem roots_any (w : World) (bh bs bj : Nat) (hp : Hp) (Fh : List Nat) (frames : List Frm) (Fs : List Nat) (jobs : List Job) (Fj : List Nat) (HH : Here hpR w bh 0 hp Fh) (HS : Here (frmR.row 106) w bs 0 frames Fs) (HJ : Here (jobR.row 88) w bj 0 jobs Fj)
    (hpl : hp.protos.length ≤ 100) (hfl : frames.length ≤ 100) (hfo : ∀ f ∈ frames, FrmOk f) (hjl : jobs.length ≤ 100) (hjo : ∀ j ∈ jobs, j.values.length ≤ 100) (hin : ∀ r ∈ rootsL hp frames jobs, -9223372036854775808 ≤ r ∧ r ≤ 9223372036854775807) :
    Calls Tryd.prog 13 #[.pointer (some ⟨bh, 0, none⟩), .pointer (some ⟨bs, 0, none⟩), .pointer (some ⟨bj, 0, none⟩)] w fun e w' => ∃ v', e = .returned v' ∧ OutI w w' v' (dedupe (rootsL hp frames jobs)) := by
  obtain ⟨-, -, -, -, -, c5, c6, -⟩ := hpCells HH
  obtain ⟨ap, kp, c7, hpr⟩ := protoRow HH
  rw [Nat.zero_add] at c5 c6 c7
  obtain ⟨vs, xs1, Gs1, s0, ops⟩ := HS.openRow
  obtain ⟨vj, xs2, Gs2, j0, opj⟩ := HJ.openRow
  have hrj : Row jobR 88 w vj jobs Fj := ⟨opj.own, HJ.nd⟩
  obtain ⟨aj, kj, rfl, -, -⟩ := hrj.val
  have HPR := Lib.hid hpr
  have HPL := Lib.hid hpl
  have HFL := Lib.hid hfl
  have HFO := Lib.hid hfo
  have HJL := Lib.hid hjl
  have HJO := Lib.hid hjo
  have HIN := Lib.hid hin
  have HFR := Lib.hid ops.own
  have HJR := Lib.hid hrj
  have HC0 := Lib.hid s0
  have HC1 := Lib.hid j0
  have jl : (jobs.length : Int) ≤ 100 := by omega
  have HS0 : Hid (w.cell? ⟨bh, 5, none⟩ = some (.int .i64 hp.global) ∧ w.cell? ⟨bh, 6, none⟩ = some (.int .i64 hp.texts) ∧ w.cell? ⟨bh, 7, none⟩ = some (.slice ap hp.protos.length kp)) := Lib.hid ⟨c5, c6, c7⟩
  have hmm := @run_makeMap Tryd.prog
  clear HH HS HJ hpl hfl hfo hjl hjo hin c5 c6 c7 hpr s0 j0 ops opj hrj
  go_enter Tryd.func13, Tryd.ntmps13
  go_upto_region 1 with fail
  refine wp_region_held_split 13 (fun w' => w'.cell? ⟨bh, 5, none⟩ = some (.int .i64 hp.global) ∧ w'.cell? ⟨bh, 6, none⟩ = some (.int .i64 hp.texts) ∧ w'.cell? ⟨bh, 7, none⟩ = some (.slice ap hp.protos.length kp)) (by kernel_rfl) (by kernel_rfl) ?_ (fun hHeld => ?_)
  · (first | exact HS0.out | exact HKS.out _ (Chg.refl _ _) | exact HKS.out _ (Chg.alloc _ _ _))
  simp only [List.take_succ_cons, List.take_zero]
  have HKS : Hid (∀ W, Chg (fun _ => False) w.drew W → W.cell? ⟨bh, 5, none⟩ = some (.int .i64 hp.global) ∧ W.cell? ⟨bh, 6, none⟩ = some (.int .i64 hp.texts) ∧ W.cell? ⟨bh, 7, none⟩ = some (.slice ap hp.protos.length kp)) := Lib.hid (fun W hc => ⟨hc.cell HS0.out.1, hc.cell HS0.out.2.1, hc.cell HS0.out.2.2⟩)
  have HWD : Hid (Chg (fun _ => False) w w.drew) := Lib.hid (Chg.refl _ w).drewR
  generalize w.drew = wD at *
  refine wpAnyH_take (i := 0) (v := ?_) rfl (by kernel_rfl) (by kernel_rfl) (by kernel_rfl) (fun _ _ _ h => h) (Or.inl ⟨by rfl, ?_⟩) (by assumption) ?_
  rotate_left
  · (intro wq hSw; (try dsimp only at hSw); go_simp; (try with_reducible rfl))
  simp only [Act.put, List.getElem_toArray, List.getElem_cons_zero, List.getElem_cons_succ, List.setIfInBounds_toArray, List.set_cons_zero, List.set_cons_succ]
  refine wpAnyH_take (i := 1) (v := ?_) rfl (by kernel_rfl) (by kernel_rfl) (by kernel_rfl) (fun _ _ _ h => h) (Or.inl ⟨by rfl, ?_⟩) (by assumption) ?_
  rotate_left
  · (intro wq hSw; (try dsimp only at hSw); go_simp; (try with_reducible rfl))
  simp only [Act.put, List.getElem_toArray, List.getElem_cons_zero, List.getElem_cons_succ, List.setIfInBounds_toArray, List.set_cons_zero, List.set_cons_succ]
  refine wpAnyH_take (i := 2) (v := ?_) rfl (by kernel_rfl) (by kernel_rfl) (by kernel_rfl) (fun _ _ _ h => h) (Or.inl ⟨by rfl, ?_⟩) (by assumption) ?_
  rotate_left
  · (intro wq hSw; (try dsimp only at hSw); go_simp; (try with_reducible rfl))
  simp only [Act.put, List.getElem_toArray, List.getElem_cons_zero, List.getElem_cons_succ, List.setIfInBounds_toArray, List.set_cons_zero, List.set_cons_succ]
  refine wpAnyH_take (i := 3) (v := ?_) rfl (by kernel_rfl) (by kernel_rfl) (by kernel_rfl) (fun _ _ _ h => h) (Or.inl ⟨by rfl, ?_⟩) (by assumption) ?_
  rotate_left
  · (intro wq hSw; (try dsimp only at hSw); go_simp; (try with_reducible rfl))
  simp only [Act.put, List.getElem_toArray, List.getElem_cons_zero, List.getElem_cons_succ, List.setIfInBounds_toArray, List.set_cons_zero, List.set_cons_succ]
  refine wpAnyH_take (i := 4) (v := ?_) rfl (by kernel_rfl) (by kernel_rfl) (by kernel_rfl) (fun _ _ _ h => h) (Or.inl ⟨by rfl, ?_⟩) (by assumption) ?_
  rotate_left
  · (intro wq hSw; (try dsimp only at hSw); go_simp; (try with_reducible rfl))
  simp only [Act.put, List.getElem_toArray, List.getElem_cons_zero, List.getElem_cons_succ, List.setIfInBounds_toArray, List.set_cons_zero, List.set_cons_succ]
  refine wpAnyH_take (i := 5) (v := ?_) rfl (by kernel_rfl) (by kernel_rfl) (by kernel_rfl) (fun _ _ _ h => h) (Or.inl ⟨by rfl, ?_⟩) (by assumption) ?_
  rotate_left
  · (intro wq hSw; (try dsimp only at hSw); go_simp; (try with_reducible rfl))
  simp only [Act.put, List.getElem_toArray, List.getElem_cons_zero, List.getElem_cons_succ, List.setIfInBounds_toArray, List.set_cons_zero, List.set_cons_succ]
  refine wpAnyH_take (i := 6) (v := ?_) rfl (by kernel_rfl) (by kernel_rfl) (by kernel_rfl) (fun _ _ _ h => h) (Or.inl ⟨by rfl, ?_⟩) (by assumption) ?_
  rotate_left
  · (intro wq hSw; (try dsimp only at hSw); go_simp; (try with_reducible rfl))
  simp only [Act.put, List.getElem_toArray, List.getElem_cons_zero, List.getElem_cons_succ, List.setIfInBounds_toArray, List.set_cons_zero, List.set_cons_succ]
  refine wpAnyH_take (i := 7) (v := ?_) rfl (by kernel_rfl) (by kernel_rfl) (by kernel_rfl) (fun _ _ _ h => h) (Or.inl ⟨by rfl, ?_⟩) (by assumption) ?_
  rotate_left
  · (intro wq hSw; (try dsimp only at hSw); go_simp; (try with_reducible rfl))
  simp only [Act.put, List.getElem_toArray, List.getElem_cons_zero, List.getElem_cons_succ, List.setIfInBounds_toArray, List.set_cons_zero, List.set_cons_succ]
  refine wpAnyH_take (i := 9) (v := ?_) rfl (by kernel_rfl) (by kernel_rfl) (by kernel_rfl) (fun _ _ _ h => h) (Or.inl ⟨by rfl, ?_⟩) (by assumption) ?_
  rotate_left
  · (intro wq hSw; (try dsimp only at hSw); go_simp; (try with_reducible rfl))
  simp only [Act.put, List.getElem_toArray, List.getElem_cons_zero, List.getElem_cons_succ, List.setIfInBounds_toArray, List.set_cons_zero, List.set_cons_succ]
  refine wpAnyH_take (i := 10) (v := ?_) rfl (by kernel_rfl) (by kernel_rfl) (by kernel_rfl) (fun _ _ _ h => h) (Or.inl ⟨by rfl, ?_⟩) (by assumption) ?_
  rotate_left
  · (intro wq hSw; (try dsimp only at hSw); go_simp; (try with_reducible rfl))
  simp only [Act.put, List.getElem_toArray, List.getElem_cons_zero, List.getElem_cons_succ, List.setIfInBounds_toArray, List.set_cons_zero, List.set_cons_succ]
  refine wpAnyH_take (i := 11) (v := ?_) rfl (by kernel_rfl) (by kernel_rfl) (by kernel_rfl) (fun _ _ _ h => h) (Or.inl ⟨by rfl, ?_⟩) (by assumption) ?_
  rotate_left
  · (intro wq hSw; (try dsimp only at hSw); go_simp; (try with_reducible rfl))
  simp only [Act.put, List.getElem_toArray, List.getElem_cons_zero, List.getElem_cons_succ, List.setIfInBounds_toArray, List.set_cons_zero, List.set_cons_succ]
  refine wpAnyH_take (i := 12) (v := ?_) rfl (by kernel_rfl) (by kernel_rfl) (by kernel_rfl) (fun _ _ _ h => h) (Or.inl ⟨by rfl, ?_⟩) (by assumption) ?_
  rotate_left
  · (intro wq hSw; (try dsimp only at hSw); go_simp; (try with_reducible rfl))
  simp only [Act.put, List.getElem_toArray, List.getElem_cons_zero, List.getElem_cons_succ, List.setIfInBounds_toArray, List.set_cons_zero, List.set_cons_succ]
  refine wpAnyH_ready (rs := [8]) (by kernel_rfl) (by simp) ?_
  refine AllReadyH.cons (by simp only [List.getElem?_toArray, List.getElem?_cons_succ, List.getElem?_cons_zero]; rfl) (fun K hK => ?_) AllReadyH.nil
  go_simp
  refine hK.out _ _ ?_ (fun hHeld => ?_)
  · (first | exact HS0.out | exact HKS.out _ (Chg.refl _ _) | exact HKS.out _ (Chg.alloc _ _ _))
  clear hK K
  (try simp only [Act.put, List.getElem_toArray, List.getElem_cons_zero, List.getElem_cons_succ, List.setIfInBounds_toArray, List.set_cons_zero, List.set_cons_succ])
  refine wpAnyH_done (by kernel_rfl) ?_ _
  change wpList _ _ _ _ _ _
  simp only [List.drop_succ_cons, List.drop_zero]
  have HO0 : Hid (OutI w (wD.alloc (.cells #[.int .i64 hp.global, .int .i64 hp.texts] 3)) (.slice (some ⟨wD.heap.size, 0, none⟩) 2 2) [hp.global, hp.texts]) := Lib.hid ⟨RowAt.lit [.int .i64 hp.global, .int .i64 hp.texts] rfl (by simp [maxLen]), fun k hk => by (have e : k = wD.heap.size := by simpa [Value.ownBlock] using hk.symm); have := HWD.out.size; omega, HWD.out.allocR _⟩
  have HP1 := Lib.hid (HPR.out.chg (HWD.out.allocR (.cells #[.int .i64 hp.global, .int .i64 hp.texts] 3)) (fun _ _ x => x))
  go_upto_region 2 with (at_builtin; refine wpList_out rfl (.tmp 22) (.tmp 26) rfl _ [hp.global, hp.texts] rfl HO0.out _ hp.protos rfl HP1.out (⟨by have := HPL.out; simp; omega⟩ : Few _) ?_; intro a1 n1 c1 w1 HO1 hch1 _)
  clear HO0 HP1 HS0 HKS HPR hch1 hHeld
  have HO1' := Lib.hid HO1
  have s1 := HO1.chg.cell HC0.out
  have HFM := Lib.hid (fun (W : World) (hc : Chg (fun _ => False) w W) => frames_any W vs frames Fs ((frmR.row 106).chg HFR.out hc (fun _ _ x => x)) (by have := HFL.out; omega) HFO.out)
  clear HO1
  go_upto_region 3 with (first
    | (go_at_call 32; refine (HFM.out _ HO1'.out.chg).mono ?_; rintro e w2 ⟨v2, rfl, HO2⟩; have HO3 := HO1'.out.still HO2.chg)
    | (at_builtin; refine wpList_out rfl (.tmp 28) (.tmp 33) rfl _ ([hp.global, hp.texts] ++ hp.protos) rfl HO3 _ (framesM frames) rfl HO2.row (⟨by have := HPL.out; have := framesM_len HFO.out; have := HFL.out; simp only [List.length_append, List.length_cons, List.length_nil]; omega⟩ : Few _) ?_; intro a3 n3 c3 w3 HO4 hch3 _))
  have HL4 := Lib.hid HO4
  have j1 := HO4.chg.cell HC1.out
  clear HO3 HO2 hch3 s1 HFM HO1' HFR HC0
  go_wp2_with fail
  generalize hA : [hp.global, hp.texts] ++ hp.protos ++ framesM frames = A at *
  have HRL : Hid (rootsL hp frames jobs = A ++ jobs.flatMap fun j => refsV j.values) := Lib.hid (by rw [← hA]; rfl)
  have HAL : Hid (A.length ≤ 100000) := Lib.hid (by rw [← hA]; have := HPL.out; have := framesM_len HFO.out; have := HFL.out; simp only [List.length_append, List.length_cons, List.length_nil]; omega)
  clear hA HO4 HFO HFL HPL j1
  go_loopw [7, 9, 40] (fun u7 _ u40 wr => ∃ (k : Nat) (a : Option Addr) (n c : Nat), k ≤ jobs.length ∧ u40 = .int .i64 k ∧ u7 = .slice a n c ∧ Hid (OutI w wr (.slice a n c) (A ++ (jobs.take k).flatMap fun j => refsV j.values))) (fun _ _ u40 _ => jobs.length - (intOf u40).toNat)
  case atStart => exact ⟨0, a3, n3, c3, by omega, rfl, rfl, Lib.hid (by simpa using HL4.out)⟩
  case round =>
    clear HL4
    obtain ⟨k, a, n, c, hk, rfl, rfl, HO⟩ := hrel
    by_cases hlt : k < jobs.length
    · have k0 : (0 : Int) ≤ (k : Int) := by omega
      have k1 : (k : Int) < (jobs.length : Int) := by omega
      have w64 : IntKind.i64.wrap ((k : Int) + 1) = ((k + 1 : Nat) : Int) := IntWalk.i64_in _ (by omega)
      obtain ⟨g, off, cap, hv, cs, G, ho, -, hc⟩ := HJR.out.cell hlt
      cases hv
      rw [show off + k * jobR.n = off + k * 2 from rfl] at hc
      obtain ⟨vv, G', rfl, hown, rfl⟩ := ho
      obtain ⟨pv, kv, rfl⟩ := row_slice hown
      obtain ⟨v', e, hvr, -⟩ := row_flat.1 hown
      obtain rfl : Value.slice pv jobs[k].values.length kv = v' := by simpa using e
      have q0 := HO.out.chg.cell (hc 0 _ rfl)
      have q1 := HO.out.chg.cell (hc 1 _ rfl)
      rw [Nat.add_zero] at q0
      have HT := Lib.hid (jobs_take hlt)
      have HVL := Lib.hid (HJO.out _ (List.getElem_mem hlt))
      have HPK : Hid (((jobs.take k).flatMap fun j => refsV j.values).length ≤ 100 * 100) := Lib.hid (by
        have h1 := jobsRefs_len (jobs.take k) fun j hj => HJO.out j (List.mem_of_mem_take hj)
        have h2 : (jobs.take k).length ≤ 100 := by rw [List.length_take]; have := HJL.out; omega
        omega)
      have HVR := Lib.hid (hvr.chg HO.out.chg (fun _ _ x => x))
      clear hc hown e hvr
      generalize jobs[k] = jb at *
      generalize hE : A ++ (jobs.take k).flatMap (fun j => refsV j.values) = E at *
      have HE := Lib.hid hE
      clear hE
      have HLT := Lib.hid hlt
      have HNX := Lib.hid (show k + 1 ≤ jobs.length from hlt)
      have hb := alloc_block wr (.cells #[.int .i64 jb.kind, .slice pv jb.values.length kv] 88)
      have d1 := cell_of_block (i := 1) hb rfl
      simp only [List.getElem_toArray, List.getElem_cons_zero, List.getElem_cons_succ] at d1
      have HO1 := Lib.hid (HO.out.alloc (.cells #[.int .i64 jb.kind, .slice pv jb.values.length kv] 88))
      have HVA := Lib.hid (values_any (wr.alloc (.cells #[.int .i64 jb.kind, .slice pv jb.values.length kv] 88)) (.slice pv jb.values.length kv) jb.values (HVR.out.alloc _) ⟨by have := HVL.out; omega⟩)
      clear hb hlt HO HVR hk
      go_wp2_with (first
        | (go_at_call 33; refine HVA.out.mono ?_; rintro e w5 ⟨v5, rfl, HO5⟩; have HO6 := HO1.out.still HO5.chg)
        | (at_builtin; refine wpList_out rfl (.tmp 44) (.tmp 47) rfl _ E rfl HO6 _ (refsV jb.values) rfl HO5.row (⟨by have := refsV_len jb.values; have := HVL.out; have := HAL.out; have := HPK.out; rw [← HE.out, List.length_append]; omega⟩ : Few _) ?_; intro a7 n7 c7 w7 HO7 hch7 _))
      go_roundw
      case rel => exact ⟨k + 1, a7, n7, c7, HNX.out, rfl, rfl, Lib.hid (by rw [HT.out, ← List.append_assoc, HE.out]; exact HO7)⟩
      case measure => have := HLT.out; simp [intOf, w64]; omega
    · have hk2 : k = jobs.length := by omega
      subst hk2
      rw [List.take_length, ← HRL.out] at HO
      have HLL : Hid ((rootsL hp frames jobs).length ≤ 200000) := Lib.hid (by
        rw [HRL.out, List.length_append]
        have h1 := jobsRefs_len jobs HJO.out
        have := HJL.out; have := HAL.out; omega)
      clear hlt hk HRL HAL HJR HJO HJL
      generalize hL : rootsL hp frames jobs = L at *
      have HLQ := Lib.hid hL
      clear hL
      obtain ⟨Wm, hrun, hsn, hcm⟩ := (seen_made wr).put (k := 0) (by omega) (by unfold maxLen; omega)
      have HSN := Lib.hid hsn
      have HCW : Hid (Chg (fun _ => False) wr Wm) := Lib.hid ((Chg.alloc (fun _ => False) wr (.map #[] 0)).trans hcm (fun _ _ x => x) (fun i hi x => by omega))
      obtain ⟨al, cl, hv, -, -⟩ := HO.out.val
      cases hv
      clear hsn hcm
      have HLO := Lib.hid HO
      have ll : (L.length : Int) ≤ 200000 := by have := HLL.out; omega
      clear HO
      go_wp2_with fail
      go_loopw [10, 13, 54] (fun u10 _ u54 wx => ∃ (k m : Nat) (S : List Int) (a : Option Addr) (n c : Nat), k ≤ L.length ∧ u54 = .int .i64 k ∧ u10 = .slice a n c ∧ Hid (OutI wr wx (.slice a n c) (dedupe (L.take k))) ∧ Hid (m ≤ k + 1) ∧ Hid (Seen wx wr.heap.size m S) ∧ Hid (∀ o, o ∈ S ↔ o = 0 ∨ o ∈ dedupe (L.take k)) ∧ Hid (¬ (Value.slice a n c).ownBlock = some wr.heap.size)) (fun _ _ u54 _ => L.length - (intOf u54).toNat)
      case atStart => exact ⟨0, 1, [0], none, 0, 0, by omega, rfl, rfl, Lib.hid ⟨RowAt.nil _ _ _, (fun k hk => by simp [Value.ownBlock] at hk), HCW.out⟩, Lib.hid (by omega), HSN, Lib.hid (fun o => by simp [dedupe]), Lib.hid (by simp [Value.ownBlock])⟩
      case round =>
        clear HSN HCW hrun
        rename World => wx
        obtain ⟨k, m, S, a, n, c, hk, rfl, rfl, HO, HM, HSN, HS, HNE⟩ := hrel
        by_cases hlt : k < L.length
        · have k0 : (0 : Int) ≤ (k : Int) := by omega
          have k1 : (k : Int) < (L.length : Int) := by omega
          have w64 : IntKind.i64.wrap ((k : Int) + 1) = ((k + 1 : Nat) : Int) := IntWalk.i64_in _ (by omega)
          obtain ⟨g, off, cap, hv, q0⟩ := HLO.out.at hlt
          cases hv
          have q1 := HO.out.chg.cell q0
          have HT := Lib.hid (dd_take hlt)
          have hin := HIN.out _ (List.getElem_mem hlt)
          have HKL : Hid ((dedupe (L.take k)).length ≤ 200000) := Lib.hid (by have h := dd_len (L.take k) []; rw [List.length_take] at h; have := HLL.out; unfold dedupe; simp only [List.length_nil] at h; omega)
          have HKK : Hid (k ≤ 200000) := Lib.hid (by have := HLL.out; omega)
          clear q0 hk
          generalize L[k] = o at *
          generalize hE : dedupe (L.take k) = E at *
          have HE := Lib.hid hE
          clear hE
          have HLT := Lib.hid hlt
          have HNX := Lib.hid (show k + 1 ≤ L.length from hlt)
          have hlook := HSN.out.look (k := o) hin
          clear hlt
          by_cases hs : o ∈ S
          · rw [decide_eq_true hs] at hlook
            have HD : Hid (dedupe (L.take (k + 1)) = E) := Lib.hid (by rw [HT.out]; unfold ddS; rw [if_pos ((HS.out o).1 hs)])
            clear hs hin
            go_wp2_with fail
            go_roundw
            case rel => exact ⟨k + 1, m, S, a, n, c, HNX.out, rfl, rfl, by rw [HD.out]; exact HO, Lib.hid (by have := HM.out; omega), HSN, by rw [HD.out]; exact HS, HNE⟩
            case measure => have := HLT.out; simp [intOf, w64]; omega
          · rw [decide_eq_false hs] at hlook
            have HD : Hid (dedupe (L.take (k + 1)) = E ++ [o]) := Lib.hid (by rw [HT.out]; unfold ddS; rw [if_neg (fun x => hs ((HS.out o).2 x))])
            obtain ⟨W2, hrun2, hsn2, hch2⟩ := HSN.out.put (k := o) hin (by have := HM.out; have := HKK.out; unfold maxLen; omega)
            have HO2 := Lib.hid ((HO.out.other hch2 (fun j hj e => HNE.out (e ▸ hj)) (fun j hj e => by omega)).alloc (.cells #[.int .i64 o] 3))
            have HSN2 := Lib.hid (hsn2.kept (Chg.alloc (fun _ => False) W2 (.cells #[.int .i64 o] 3)) (fun x => x))
            have HS2 : Hid (∀ x, x ∈ o :: S ↔ x = 0 ∨ x ∈ E ++ [o]) := Lib.hid (fun x => by
              rw [List.mem_cons, List.mem_append, List.mem_singleton, HS.out x]
              constructor
              · rintro (h | h | h)
                · exact .inr (.inr h)
                · exact .inl h
                · exact .inr (.inl h)
              · rintro (h | h | h)
                · exact .inr (.inl h)
                · exact .inr (.inr h)
                · exact .inl h)
            clear hs hin hsn2 hch2
            go_wp2_with (at_builtin; refine wpList_out rfl (.tmp 64) (.tmp 66) rfl _ E rfl HO2.out _ [o] rfl (RowAt.lit [.int .i64 o] rfl (by simp [maxLen])) (⟨by have := HKL.out; simp only [List.length_cons, List.length_nil]; omega⟩ : Few _) ?_; intro a7 n7 c7 w7 HO7 hch7 hold7)
            go_roundw
            case rel =>
              refine ⟨k + 1, m + 1, o :: S, a7, n7, c7, HNX.out, rfl, rfl, Lib.hid (by rw [HD.out]; exact HO7), Lib.hid (by have := HM.out; omega), Lib.hid (HSN2.out.kept hch7 HNE.out), by rw [HD.out]; exact HS2, Lib.hid (fun hj => ?_)⟩
              rcases hold7 _ hj with x | x
              · exact HNE.out x
              · have := HSN2.out.lt; omega
            case measure => have := HLT.out; simp [intOf, w64]; omega
        · have hk2 : k = L.length := by omega
          subst hk2
          rw [List.take_length] at HO
          clear hlt hk
          go_wp2_with fail
          go_ret
          rw [HLQ.out]
          exact ⟨.slice a n c, rfl, ⟨HO.out.row, fun j hj => Nat.le_trans HLO.out.chg.size (HO.out.lo j hj), HLO.out.chg.trans' HO.out.chg⟩⟩
end Go.Proofs.YthiiehanlconeaaDoor
