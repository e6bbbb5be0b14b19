/-
  The law's two graphs side by side: the heap, the reference's objects, and blocks that neither of them touches.
  Several elements appended to a row in a field; sizes of values, properties and frames.
  What every law's row shares: a call that returned true and changed nothing old meets the row; how a law's walk is lifted to its statement.
  Arguments as the walk meets them: slices that came in, arrays of two integers.
  Arguments as the walk meets them: structs of scalars; slices of structs.
  Arguments as the walk meets them: slices of structs.
  The law's lists of handles and of numbers.
  The decimal text of a small number has at least one byte.
  The law's join: a link added to both graphs.
  collect.Live, what its walk needs: its state, the blocks of the rounds' deferred calls, the model.
  collect.Live: its walk.
  heap.Make.
-/
import Derived.Test.YthiiehanlconeaaDoorPCollectRingsc
import Derived.Test.YthiiehanlconeaaDoorRows
import Derived.WalkKit
import Derived.ProofKit
import Derived.OpenShut
import Derived.ShutString
import Derived.ChangeOld
import Derived.Below
import Derived.Carry
import Derived.SizedLaws
import Derived.JoinedCond
import Derived.Deep.CondSized
import Derived.Test.YthiiehanlconeaaDoorPCollectRingsa
import Derived.SliceStrings
import Derived.ChangeSlices
import Derived.Test.YthiiehanlconeaaDoorPCollectRingsb
import Derived.Lib.Strings
import Derived.IntWalk
import Derived.Shelf.Abstract
namespace Go.Proofs.YthiiehanlconeaaDoor
open Go.RowKit
set_option linter.unusedVariables false
set_option linter.unusedSimpArgs false

/-- The blocks B lie as they lay. -/
def KeepB (B : List Nat) (W W' : World) : Prop := ∀ k ∈ B, ∀ o, W.heap[k]? = some o → W'.heap[k]? = some o
theorem KeepB.refl (B : List Nat) (W : World) : KeepB B W W := fun _ _ _ h => h
theorem KeepB.trans {B : List Nat} {W W' W'' : World} (h : KeepB B W W') (k : KeepB B W' W'') : KeepB B W W'' := fun i hi o ho => k i hi o (h i hi o ho)
theorem KeepB.still {B : List Nat} {W W' : World} (hc : Chg (fun _ => False) W W') : KeepB B W W' := fun k _ _ ho => hc.keep ho (fun x => x)
theorem KeepB.sub {B B' : List Nat} {W W' : World} (h : KeepB B W W') (hs : ∀ k ∈ B', k ∈ B) : KeepB B' W W' := fun k hk => h k (hs k hk)
section
variable {w0 W W' : World} {bh : Nat} {hp hp' : Hp} {vx : Value} {xs : List RObj} {Fh Fx B : List Nat}
def putO (hp : Hp) (i : Nat) (o : Obj) : Hp := { hp with slots := hp.slots.set i { hp.slots.getD i noSlt with obj := o } }
theorem setCell_heap_eq {w w' : World} {p : Addr} {v : Value} {j : Nat} (h : w.heap[j]? = w'.heap[j]?) : (w.setCell p v).heap[j]? = (w'.setCell p v).heap[j]? := by
  simp only [World.setCell, Array.getElem?_modify, h]
end
end Go.Proofs.YthiiehanlconeaaDoor
namespace Go.Proofs.YthiiehanlconeaaDoor
open Go.RowKit
set_option linter.unusedVariables false
set_option linter.unusedSimpArgs false

theorem elem_val : Elem Tryd.prog 38 4 40 := elem_of (by kernel_rfl)
theorem elem_prop : Elem Tryd.prog 81 5 56 := elem_of (by kernel_rfl)
theorem elem_frm : Elem Tryd.prog 106 16 184 := elem_of (by kernel_rfl)
section
variable {α β : Type} {A : Rep α} {B : Rep β} {e : TypeId} {w : World} {b o k : Nat} {a : α} {F : List Nat}
theorem Here.fieldAppendingAll {get : α → List β} {set : α → List β → α} (fl : FieldOf A (B.row e) k get set) (hA : 0 < A.n) (H : Here A w b o a F) :
    ∃ p cap xs Fs Fr, w.cell? ⟨b, o + k, none⟩ = some (.slice p (get a).length cap) ∧ RowOpen B e w (.slice p (get a).length cap) (get a) Fr xs Fs ∧ w.frozen? ⟨b, o + k, none⟩ = false ∧
      (∀ w1 w3, Chg (fun _ => False) w w1 → Chg (fun j => (Value.slice p (get a).length cap).ownBlock = some j) w1 w3 → w3.cell? ⟨b, o + k, none⟩ = some (.slice p (get a).length cap) ∧ w3.frozen? ⟨b, o + k, none⟩ = false) ∧
      ∀ w1 w3 ys m Gs v2, Chg (fun _ => False) w w1 → Each B w1 ys m Gs → (∀ j ∈ Gs.flatten, w.heap.size ≤ j) → Gs.flatten.Nodup → RowAt w3 e B.n v2 ((get a).length + m.length) (xs.flatten ++ ys.flatten) →
        Chg (fun j => (Value.slice p (get a).length cap).ownBlock = some j) w1 w3 → (∀ j, v2.ownBlock = some j → (Value.slice p (get a).length cap).ownBlock = some j ∨ w1.heap.size ≤ j) →
        Post A w b o (set a (get a ++ m)) F (w3.setCell ⟨b, o + k, none⟩ v2) := by
  obtain ⟨G1, h1, h2, h3⟩ := H.field fl hA
  obtain ⟨p, cap, xs, Fs, q1, q2, _, _, q5, q6⟩ := h1.appending
  refine ⟨p, cap, xs, Fs, G1, q1, q2, q5, q6, fun w1 w3 ys m Gs v2 k1 k2 k3 k4 k5 k6 k7 => ?_⟩
  obtain ⟨F', r1, r2⟩ := q2.pushAll h1 k1 k2 k3 k4 k5 k6 k7
  exact h3 _ _ _ r1 r2
end
/-- Several elements appended; they lie in block g. Inside a region that draws its order. -/
theorem step_append_elems {P : Program} {W : World} {ops : Array Oper} {o : Oper} {a : Act} {K : Act → World → Prop} {Q : Exit → Act → World → Prop} {E : Prop} (m : Nat) (hm : 0 < m) (hgd : o.guard = none) (s x : Operand) (t : TypeId)
    (ho : o.op = .call { callee := .builtin .append, args := #[s, x], argTypes := #[t, t] })
    (e : TypeId) (size bytes : Nat) (ht : P.underlying t = some (.slice e)) (hE : Elem P e size bytes) (hsz : 0 < size)
    (v : Value) (n : Nat) (xs : List Value) (hsv : a.eval s = v) (hown : RowAt W e size v n xs) (news : List Value) (hnl : news.length = m * size) (g T : Nat) (f : Nat × Nat)
    (hx : a.eval x = .slice (some ⟨g, 0, none⟩) m m) (hg : W.heap[g]? = some (.cells news.toArray T f)) (h1 : ∀ u ∈ news, u.oneCell' = true)
    (h63 : n + m ≤ maxLen) (hbytes : (n + m) * bytes ≤ 140737488355328)
    (h : ∀ a1 n1 c1 w', RowAt w' e size (.slice a1 n1 c1) (n + m) (xs ++ news) → Chg (fun k => v.ownBlock = some k) W w' → (∀ k, (Value.slice a1 n1 c1).ownBlock = some k → v.ownBlock = some k ∨ W.heap.size ≤ k) → K (a.put o.dst (.slice a1 n1 c1)) w') :
    if Region.wanted o (yielded ops a.tmps) = true then Oper.wp P o a W K Q else E := by
  obtain ⟨i, z, hi, hz, hsize, hby, hzs⟩ := hE
  refine step_append_row hgd s x t t ho e i z size bytes ht hi hz hsize hby hzs hsz v n xs hsv hown _ m news hx (Src.ofSlice _ ht _ m m news hnl ?_ h1) h63 hbytes ?_
  · intro j u hu
    have hadd : (⟨g, 0, none⟩ : Addr).add j = ⟨g, j, none⟩ := by unfold Addr.add; split <;> simp_all
    rw [hadd]
    exact cell_of_block hg (by simpa using hu)
  · intro v' w' h1 h2 h3
    obtain ⟨a1, c1, rfl, _⟩ := h1.slice
    exact h a1 _ c1 w' h1 h2 h3
theorem val_own (w : World) (v : Val) : valR.own w v.cells v [] := ⟨rfl, rfl⟩
theorem refV_own (w : World) (h : Int) : valR.own w [.int .i64 5, .int .i64 0, .string ⟨#[]⟩, .int .i64 h] ⟨5, 0, ⟨#[]⟩, h⟩ [] := ⟨rfl, rfl⟩
theorem prop_own (w : World) (k : ByteArray) (h : Int) : propR.own w [.string k, .int .i64 5, .int .i64 0, .string ⟨#[]⟩, .int .i64 h] ⟨k, 5, 0, ⟨#[]⟩, h⟩ [] := ⟨rfl, rfl⟩
end Go.Proofs.YthiiehanlconeaaDoor
namespace Go.Proofs.YthiiehanlconeaaDoor
set_option linter.unusedVariables false
open Go.ChangeShapes Go.WideShapes Go.ChangeAt Go.RowKit

theorem Tryd.own : ownKnob Tryd.prog.godebug = none := by kernel_rfl
theorem Tryd.laidOut : laidOutB Tryd.prog = true := by kernel_rfl
/-- Each type can be read and is a row of the table. -/
def rowed (P : Program) (ts : List TypeId) : Bool := ts.all fun t => P.readableRec t && decide (t < P.types.size)

theorem trodAll_below {H : Type} {enc : TypeId × Value → H} {P : Program} (hl : laidOutB P = true) {W W' : World} (hb : Below W.heap.size W W') :
    ∀ {ts : List TypeId} {vs : List Value} {ds : List (DataW H)} {ps : List MemPlace}, rowed P ts = true → DataW.TrodAll enc P W 0 (fun _ => true) true ts vs ds ps → (∀ x ∈ ps, x.block < W.heap.size) →
      DataW.TrodAll enc P W' 0 (fun b => decide (b < W.heap.size)) true ts vs ds ps
  | [], [], [], _, _, h, _ => h
  | t :: ts, v :: vs, d :: ds, ps, hr, ⟨p, q, h1, h2, e⟩, hlt => by
    simp only [rowed, List.all_cons, Bool.and_eq_true, decide_eq_true_eq] at hr
    exact ⟨p, q, Below.trod hl hr.1.1 hr.1.2 h1 hb (fun x hx => hlt x (by rw [e]; exact List.mem_append_left _ hx)),
      trodAll_below hl hb (by simpa [rowed] using hr.2) h2 (fun x hx => hlt x (by rw [e]; exact List.mem_append_right _ hx)), e⟩
  | [], [], _ :: _, _, _, h, _ => h.elim
  | [], _ :: _, _, _, _, h, _ => h.elim
  | _ :: _, [], _, _, _, h, _ => h.elim
  | _ :: _, _ :: _, [], _, _, h, _ => h.elim

theorem law_post {P : Program} {H : Type} {enc : TypeId × Value → H} {f : Func} {s : ChangeSpec} {W W' : World} {args : Array Value} {ds gs : List (DataW H)} {before : List MemPlace} {tb : TypeId}
    (hl : laidOutB P = true) (hts : rowed P f.params.toList = true) (hres : f.resultTypes = #[tb]) (hbool : P.underlying tb = some .bool) (hvars : s.vars = [])
    (hW : DataW.Whole enc P f.params.toList s.vars false W args.toList ds gs before) (hfn : s.fn H (ds ++ gs) = { results := [.lit (.bool true)], args := ds })
    (hb : Below W.heap.size W W') : s.post enc P f false true false false W args (.bool true) W' := by
  have hW' := hW
  have hlt : ∀ x ∈ before, x.block < W.heap.size := fun x hx => hW.lt x hx
  obtain ⟨p, q, hA, hV, rfl, hfz, hnd⟩ := hW
  refine ⟨ds, gs, p ++ q, [], p, [], hW', ?_, ?_, ?_, hb.frame _, fun h => by cases h⟩
  · rw [hfn, hres]; exact trodAll_mk1 (shut_bool hbool _)
  · rw [hfn]; exact trodAll_below hl hb hts hA (fun x hx => hlt x (List.mem_append_left _ hx))
  · rw [hfn, hvars]; rfl

/-- A law's contract lifted to its row. -/
theorem law_lift {C : Checked} {os : Os} {f : FuncId} {fn : Func} {s : ChangeSpec} {H : Type} {enc : TypeId × Value → H} {tb : TypeId} (started : os.Started)
    (own : ownKnob C.prog.godebug = none) (hl : laidOutB C.prog = true) (noInit : C.prog.inits.idxOf? f = none) (hfn : C.prog.funcs[f]? = some fn) (hts : rowed C.prog fn.params.toList = true) (hres : fn.resultTypes = #[tb]) (hbool : C.prog.underlying tb = some .bool) (hvars : s.vars = [])
    (hargs : ∀ ds : List (DataW H), ds.length = fn.params.toList.length → s.fn H ds = { results := [.lit (.bool true)], args := ds })
    (witness : ∃ (w : World) (tape : Tape) (i : Input), w.os = os ∧ (w.forCall tape i).Shaped C.prog ∧ i.vars = [] ∧ Input.okWide C.prog (w.forCall tape i) .any w.heap.size f i ∧
      s.pre6 enc C.prog fn [] false (w.forCall tape i).memory i.args ∧ Assume.holds {} C.prog (lone (Frame.enter C.prog f i.args .normal) [] (w.forCall tape i)))
    (core : ∀ (W : World) (base : Nat) (vs : List Value) (ds : List (DataW H)) (ps : List MemPlace), (∀ (j : Nat) t v, fn.params.toList[j]? = some t → vs[j]? = some v → Value.okWide C.prog W .any base t v) →
      DataW.TrodAll enc C.prog W 0 (fun _ => true) true fn.params.toList vs ds ps → (DataW.weightsEach C.prog fn.params.toList ds).all (· ≤ reachBytes) = true →
      Calls C.prog f vs.toArray W fun e W' => e = .returned (.bool true) ∧ Below W.heap.size W W') :
    ReturnsInHanded {} C os f .any (s.pre6 enc C.prog fn [] false) (s.post enc C.prog fn false true false false) := by
  refine returnsInHanded_of_change_sized (C := C) own started noInit hfn witness ?_
  intro W base args ds gs before hval hW _ hsz _
  have hW' := hW
  obtain ⟨p, q, hA, hV, rfl, hfz, hnd⟩ := hW
  rw [hvars] at hV
  obtain ⟨rfl, rfl⟩ := trodVars_none hV
  simp only [List.append_nil] at hsz
  have hlen : ds.length = fn.params.toList.length := by
    have : ∀ (ts : List TypeId) (vs : List Value) (ds : List (DataW H)) (ps : List MemPlace), DataW.TrodAll enc C.prog W 0 (fun _ => true) true ts vs ds ps → ds.length = ts.length := by
      intro ts
      induction ts with
      | nil => intro vs ds ps h; cases vs <;> cases ds <;> first | rfl | exact h.elim
      | cons t ts ih => intro vs ds ps h; cases vs <;> cases ds <;> first | exact h.elim | (obtain ⟨_, _, _, h2, _⟩ := h; simp [ih _ _ _ h2])
    exact this _ _ _ _ hA
  have hvt : s.plain.varTypes C.prog = [] := by simp [DataSpec.varTypes, ChangeSpec.plain, hvars]
  rw [hvt, List.append_nil] at hsz
  have := core W base args.toList ds p (fun j t v h1 h2 => hval j t v (by simpa using h1) (by simpa using h2)) hA hsz
  rw [Array.toArray_toList] at this
  refine this.mono fun e W' ⟨he, hb⟩ => ⟨_, he, law_post hl hts hres hbool hvars hW' (by rw [List.append_nil]; exact hargs ds hlen) hb⟩

/-- A law's contract lifted to its second row (bulk at most 1048576). -/
theorem law_lift_upto {C : Checked} {os : Os} {f : FuncId} {fn : Func} {s : ChangeSpec} {H : Type} {enc : TypeId × Value → H} {tb : TypeId} {F : Stop.Interp} (started : os.Started)
    (own : ownKnob C.prog.godebug = none) (hl : laidOutB C.prog = true) (noInit : C.prog.inits.idxOf? f = none) (hfn : C.prog.funcs[f]? = some fn) (hts : rowed C.prog fn.params.toList = true) (hres : fn.resultTypes = #[tb]) (hbool : C.prog.underlying tb = some .bool) (hvars : s.vars = [])
    (hargs : ∀ ds : List (DataW H), ds.length = fn.params.toList.length → s.fn H ds = { results := [.lit (.bool true)], args := ds })
    (witness : ∃ (w : World) (tape : Tape) (i : Input), w.os = os ∧ (w.forCall tape i).Shaped C.prog ∧ i.vars = [] ∧ Input.okWide C.prog (w.forCall tape i) .any w.heap.size f i ∧
      (Rows.OpenSpec.upto s).pre6 enc C.prog fn [] false (w.forCall tape i).memory i.args ∧ Assume.holds {} C.prog (lone (Frame.enter C.prog f i.args .normal) [] (w.forCall tape i)))
    (core : ∀ (W : World) (base : Nat) (vs : List Value) (ds : List (DataW H)) (ps : List MemPlace), (∀ (j : Nat) t v, fn.params.toList[j]? = some t → vs[j]? = some v → Value.okWide C.prog W .any base t v) →
      DataW.TrodAll enc C.prog W 0 (fun _ => true) true fn.params.toList vs ds ps → Rows.uptoBulkAll ds ≤ 1048576 →
      Calls C.prog f vs.toArray W fun e W' => e = .returned (.bool true) ∧ Below W.heap.size W W') :
    ReturnsInHanded {} C os f .any ((Rows.OpenSpec.upto s).pre6 enc C.prog fn [] false) (((Rows.OpenSpec.upto s).at F).post enc C.prog fn false true false false) := by
  refine returnsInHanded_of_cond (C := C) (s := Rows.OpenSpec.upto s) (k := Rows.uptoSmall) rfl own started noInit hfn witness ?_
  intro W base args ds gs before hval hW _ hk _
  have hW' : DataW.Whole enc C.prog fn.params.toList s.vars false W args.toList ds gs before := hW
  obtain ⟨p, q, hA, hV, rfl, hfz, hnd⟩ := hW'
  have hV' : DataW.TrodVars enc C.prog W (fun _ => true) s.vars gs q := hV
  rw [hvars] at hV'
  obtain ⟨rfl, rfl⟩ := trodVars_none hV'
  simp only [List.append_nil] at hk
  have hlen : ds.length = fn.params.toList.length := by
    have : ∀ (ts : List TypeId) (vs : List Value) (ds : List (DataW H)) (ps : List MemPlace), DataW.TrodAll enc C.prog W 0 (fun _ => true) true ts vs ds ps → ds.length = ts.length := by
      intro ts
      induction ts with
      | nil => intro vs ds ps h; cases vs <;> cases ds <;> first | rfl | exact h.elim
      | cons t ts ih => intro vs ds ps h; cases vs <;> cases ds <;> first | exact h.elim | (obtain ⟨_, _, _, h2, _⟩ := h; simp [ih _ _ _ h2])
    exact this _ _ _ _ hA
  have := core W base args.toList ds p (fun j t v h1 h2 => hval j t v (by simpa using h1) (by simpa using h2)) hA (of_decide_eq_true hk)
  rw [Array.toArray_toList] at this
  refine this.mono fun e W' ⟨he, hb⟩ => ⟨_, he, ?_⟩
  exact (law_post (s := s) hl hts hres hbool hvars hW (by rw [List.append_nil]; exact hargs ds hlen) hb)
end Go.Proofs.YthiiehanlconeaaDoor
namespace Go.Proofs.YthiiehanlconeaaDoor
open Go.ChangeShapes Go.WideShapes Go.ChangeAt Go.RowKit
set_option linter.unusedVariables false

/-- A slice that came in: its elements (one cell each) are xs. -/
def ArgRow (w : World) (v : Value) (xs : List Value) : Prop :=
  ∃ a cap, v = .slice a xs.length cap ∧ xs.length ≤ cap ∧ cap ≤ maxLen ∧ (xs ≠ [] → ∃ g off, a = some ⟨g, off, none⟩ ∧ g < w.heap.size ∧ ∀ j u, xs[j]? = some u → w.cell? ⟨g, off + j, none⟩ = some u)
theorem int_of_wf {k : IntKind} {n : Int} (h : (Lit.int k n).wf = true) : k.min ≤ n ∧ n ≤ k.max := by simpa [Lit.wf] using h

section
variable {H : Type} {enc : TypeId × Value → H} {P : Program} {w : World} {base : Nat}
theorem addr_none {w : World} {a : Addr} {v : Value} (h : w.cell? (a.add 0) = some v) : ∃ g off, a = ⟨g, off, none⟩ := by
  obtain ⟨g, off, spot⟩ := a
  have hs : spot = none := by simpa [Addr.add] using World.cell?_spot h
  exact ⟨g, off, by rw [hs]⟩
theorem add_none (g off j : Nat) : (⟨g, off, none⟩ : Addr).add j = ⟨g, off + j, none⟩ := by unfold Addr.add; split <;> simp_all
theorem argRow_of {a : Addr} {len cap : Nat} (xs : List Value) (hl : len ≤ cap) (hc : cap ≤ maxLen) (hx : cap ≤ xs.length) (h : ∀ i u, xs[i]? = some u → w.cell? (a.add i) = some u) : ArgRow w (.slice (some a) len cap) (xs.take len) := by
  have hlen : (xs.take len).length = len := by simp; omega
  refine ⟨some a, cap, by rw [hlen], by omega, hc, fun hne => ?_⟩
  have h0 : 0 < len := by
    apply Nat.pos_of_ne_zero
    rintro rfl
    simp at hne
  have h1 : 0 < xs.length := by omega
  obtain ⟨g, off, rfl⟩ := addr_none (h 0 xs[0] (List.getElem?_eq_getElem h1))
  refine ⟨g, off, rfl, ?_, ?_⟩
  · have := World.block_lt_of_cell? w _ (h 0 xs[0] (List.getElem?_eq_getElem h1))
    simpa [add_none] using this
  · intro j u hu
    rw [List.getElem?_take] at hu
    split at hu
    · have := h j u hu
      rwa [add_none] at this
    · cases hu
theorem open_intRow {k : IntKind} {t e : TypeId} {v : Value} {d : DataW H} {ps : List MemPlace} (ht : P.underlying t = some (.slice e)) (he : P.underlying e = some (.int k)) (hc : P.cellsOf e = 1)
    (hv : Value.okWide P w .any base t v) (h : DataW.Trod enc P w 0 (fun _ => true) true t v d ps) :
    ∃ zs : List Int, ArgRow w v (zs.map (Value.int k)) ∧ (∀ z ∈ zs, k.min ≤ z ∧ z ≤ k.max) ∧ (d = .nil ∧ zs = [] ∨ ∃ rest, d = .slice (lits k zs) rest) := by
  obtain ⟨a, len, cap, rfl⟩ := okWide_slice ht hv
  obtain ⟨fuel, hf⟩ := h
  rcases open_ints ht he hc hf with ⟨hcs, hd⟩ | ⟨x, l, c, zs, hcs, _, hl, hm, hz, hd, hcell, hwz⟩
  · simp [Value.cells] at hcs
    obtain ⟨rfl, rfl, rfl⟩ := hcs
    exact ⟨[], ⟨none, 0, rfl, Nat.le_refl _, by simp, fun h => absurd rfl h⟩, by simp, .inl ⟨(Prod.mk.inj hd).1, rfl⟩⟩
  · simp [Value.cells] at hcs
    obtain ⟨rfl, rfl, rfl⟩ := hcs
    simp at hz
    refine ⟨zs.take len, ?_, fun z hz => int_of_wf (hwz z (List.mem_of_mem_take hz)), .inr ⟨_, (Prod.mk.inj hd).1⟩⟩
    rw [List.map_take]
    refine argRow_of _ hl hm (by simp; omega) ?_
    intro i u hu
    have hi : i < zs.length := by
      have := (List.getElem?_eq_some_iff.1 hu).1
      simpa using this
    rw [hcell i hi]
    simp [List.getElem?_eq_getElem hi] at hu
    simp [List.getD, hi, hu]
theorem open_strRow {t e : TypeId} {v : Value} {d : DataW H} {ps : List MemPlace} (ht : P.underlying t = some (.slice e)) (he : P.underlying e = some .string) (hc : P.cellsOf e = 1)
    (hv : Value.okWide P w .any base t v) (h : DataW.Trod enc P w 0 (fun _ => true) true t v d ps) :
    ∃ ss : List ByteArray, ArgRow w v (ss.map Value.string) ∧ (∀ z ∈ ss, z.size ≤ maxLen) ∧ (d = .nil ∧ ss = [] ∨ ∃ rest, d = .slice (strs ss) rest) := by
  obtain ⟨a, len, cap, rfl⟩ := okWide_slice ht hv
  obtain ⟨fuel, hf⟩ := h
  rcases open_strings ht he hc hf with ⟨hcs, hd⟩ | ⟨x, l, c, zs, hcs, _, hl, hm, hz, hd, hcell, hwz⟩
  · simp [Value.cells] at hcs
    obtain ⟨rfl, rfl, rfl⟩ := hcs
    exact ⟨[], ⟨none, 0, rfl, Nat.le_refl _, by simp, fun h => absurd rfl h⟩, by simp, .inl ⟨(Prod.mk.inj hd).1, rfl⟩⟩
  · simp [Value.cells] at hcs
    obtain ⟨rfl, rfl, rfl⟩ := hcs
    simp at hz
    refine ⟨zs.take len, ?_, fun z hz => hwz z (List.mem_of_mem_take hz), .inr ⟨_, (Prod.mk.inj hd).1⟩⟩
    rw [List.map_take]
    refine argRow_of _ hl hm (by simp; omega) ?_
    intro i u hu
    have hi : i < zs.length := by
      have := (List.getElem?_eq_some_iff.1 hu).1
      simpa using this
    rw [hcell i hi]
    simp [List.getElem?_eq_getElem hi] at hu
    simp [List.getD, hi, hu]
theorem open_array2 {k : IntKind} {t e : TypeId} {v : Value} {d : DataW H} {ps : List MemPlace} (ht : P.underlying t = some (.array 2 e)) (he : P.underlying e = some (.int k)) (hc : P.cellsOf e = 1) (hct : P.cellsOf t = 2)
    (hv : Value.okWide P w .any base t v) (h : DataW.Trod enc P w 0 (fun _ => true) true t v d ps) :
    ∃ x y : Int, v = .agg #[.int k x, .int k y] ∧ (k.min ≤ x ∧ x ≤ k.max) ∧ (k.min ≤ y ∧ y ≤ k.max) := by
  simp only [Value.okWide, ht] at hv
  obtain ⟨cs, rfl, hsz, _⟩ := hv
  rw [hct] at hsz
  obtain ⟨c0, c1, rfl⟩ : ∃ c0 c1, cs = #[c0, c1] := by
    obtain ⟨l⟩ := cs
    match l, hsz with
    | [c0, c1], _ => exact ⟨c0, c1, rfl⟩
  obtain ⟨fuel, hf⟩ := h
  obtain ⟨xs, m, _, _, _, hxl, hx⟩ := DataW.trod_array ht hf
  have h0 := hx 0 (by omega)
  have h1 := hx 1 (by omega)
  rw [hc, List.getElem?_eq_getElem (by omega)] at h0 h1
  simp [Value.cells] at h0 h1
  obtain ⟨n0, e0, _, w0⟩ := DataW.trod_int he h0
  obtain ⟨n1, e1, _, w1⟩ := DataW.trod_int he h1
  simp at e0 e1
  subst e0 e1
  exact ⟨n0, n1, rfl, int_of_wf w0, int_of_wf w1⟩
end
section
variable {w w' : World} {v : Value} {xs : List Value}
theorem ArgRow.keep (h : ArgRow w v xs) (hc : Chg (fun _ => False) w w') : ArgRow w' v xs := by
  obtain ⟨a, cap, rfl, h1, h2, h3⟩ := h
  refine ⟨a, cap, rfl, h1, h2, fun hne => ?_⟩
  obtain ⟨g, off, rfl, hg, hcell⟩ := h3 hne
  exact ⟨g, off, rfl, Nat.lt_of_lt_of_le hg hc.size, fun j u hu => hc.cell (hcell j u hu)⟩
end
theorem argCell {w w' : World} {a : Option Addr} {n cap : Nat} {xs : List Value} (h : ArgRow w (.slice a n cap) xs) (hc : Chg (fun _ => False) w w') {k : Nat} {u : Value} (hu : xs[k]? = some u) :
    ∃ g off, a = some ⟨g, off, none⟩ ∧ w'.cell? ⟨g, off + k, none⟩ = some u := by
  obtain ⟨a', cap', hv, h1, h2, h3⟩ := h
  cases hv
  have hne : xs ≠ [] := by rintro rfl; simp at hu
  obtain ⟨g, off, rfl, hg, hcell⟩ := h3 hne
  exact ⟨g, off, rfl, hc.cell (hcell k u hu)⟩
end Go.Proofs.YthiiehanlconeaaDoor
namespace Go.Proofs.YthiiehanlconeaaDoor
open Go.ChangeShapes Go.WideShapes Go.ChangeAt Go.RowKit
set_option linter.unusedVariables false

section
variable {H : Type} {enc : TypeId × Value → H} {P : Program} {w : World} {base : Nat} {sp : Nat → Bool} {held : Bool} {x : List Value} {y : DataW H × List MemPlace} {fuel o : Nat} {t : TypeId}
theorem one_get {v : Value} (h : (x.drop o).take 1 = [v]) : x[o]? = some v := by
  have h2 := congrArg (fun l => l[0]?) h
  simpa [List.getElem?_take, List.getElem?_drop] using h2
theorem cell_int {k : IntKind} (ht : P.underlying t = some (.int k)) (hc : P.cellsOf t = 1) (h : DataW.trod enc P w 0 sp held fuel t ((x.drop o).take (P.cellsOf t)) = some y) : ∃ n, x[o]? = some (.int k n) ∧ (k.min ≤ n ∧ n ≤ k.max) := by
  obtain ⟨n, h1, _, h2⟩ := DataW.trod_int ht h
  rw [hc] at h1
  exact ⟨n, one_get h1, int_of_wf h2⟩
theorem cell_string (ht : P.underlying t = some .string) (hc : P.cellsOf t = 1) (h : DataW.trod enc P w 0 sp held fuel t ((x.drop o).take (P.cellsOf t)) = some y) : ∃ s : ByteArray, x[o]? = some (.string s) ∧ s.size ≤ maxLen := by
  obtain ⟨s, h1, _, h2⟩ := DataW.trod_string ht h
  rw [hc] at h1
  exact ⟨s, one_get h1, h2⟩
/-- A struct that came in, cell by cell. -/
theorem open_struct {fs : Array Field} {v : Value} {d : DataW H} {ps : List MemPlace} (ht : P.underlying t = some (.struct fs)) (hv : Value.okWide P w .any base t v) (h : DataW.Trod enc P w 0 sp held t v d ps) :
    ∃ cs : Array Value, v = .agg cs ∧ cs.toList.length = P.cellsOf t ∧ ∀ (i : Nat) (f : Field), fs[i]? = some f → ∃ fuel y, DataW.trod enc P w 0 sp held fuel f.type ((cs.toList.drop f.offset).take (P.cellsOf f.type)) = some y := by
  simp only [Value.okWide, ht] at hv
  obtain ⟨cs, rfl, hsz, _⟩ := hv
  obtain ⟨n, hf⟩ := h
  obtain ⟨xs, m, _, _, _, hxl, hx⟩ := DataW.trod_struct ht hf
  refine ⟨cs, rfl, by simpa using hsz, fun i f hif => ?_⟩
  have hi : i < xs.length := by rw [hxl]; exact (Array.getElem?_eq_some_iff.1 hif).1
  exact ⟨m, xs[i], by rw [← List.getElem?_eq_getElem hi]; exact hx i f hif⟩
end
theorem list8 {x : List Value} {a b c d e f g h : Value} (hl : x.length = 8) (h0 : x[0]? = some a) (h1 : x[1]? = some b) (h2 : x[2]? = some c) (h3 : x[3]? = some d) (h4 : x[4]? = some e) (h5 : x[5]? = some f) (h6 : x[6]? = some g) (h7 : x[7]? = some h) : x = [a, b, c, d, e, f, g, h] := by
  match x, hl with
  | [_, _, _, _, _, _, _, _], _ => simp_all
end Go.Proofs.YthiiehanlconeaaDoor
namespace Go.Proofs.YthiiehanlconeaaDoor
open Go.ChangeShapes Go.WideShapes Go.ChangeAt Go.RowKit
set_option linter.unusedVariables false

/-- A slice that came in: its elements (n cells each) are xs. -/
def ArgRows (w : World) (v : Value) (n : Nat) (xs : List (List Value)) : Prop :=
  ∃ a cap, v = .slice a xs.length cap ∧ xs.length ≤ cap ∧ cap ≤ maxLen ∧ (xs ≠ [] → ∃ g off, a = some ⟨g, off, none⟩ ∧ ∀ (j i : Nat) (x : List Value) (u : Value), xs[j]? = some x → x[i]? = some u → w.cell? ⟨g, off + j * n + i, none⟩ = some u)
theorem ArgRows.keep {w w' : World} {v : Value} {n : Nat} {xs : List (List Value)} (h : ArgRows w v n xs) (hc : Chg (fun _ => False) w w') : ArgRows w' v n xs := by
  obtain ⟨a, cap, rfl, h1, h2, h3⟩ := h
  refine ⟨a, cap, rfl, h1, h2, fun hne => ?_⟩
  obtain ⟨g, off, rfl, hcell⟩ := h3 hne
  exact ⟨g, off, rfl, fun j i x u hx hu => hc.cell (hcell j i x u hx hu)⟩
section
variable {H : Type} {enc : TypeId × Value → H} {P : Program} {w : World} {base : Nat}
theorem open_rows {t e : TypeId} {fs : Array Field} {v : Value} {d : DataW H} {ps : List MemPlace} (ht : P.underlying t = some (.slice e)) (he : P.underlying e = some (.struct fs)) (hn : 0 < P.cellsOf e)
    (hv : Value.okWide P w .any base t v) (h : DataW.Trod enc P w 0 (fun _ => true) true t v d ps) :
    ∃ xs : List (List Value), ArgRows w v (P.cellsOf e) xs ∧ ∀ x ∈ xs, x.length = P.cellsOf e ∧ ∀ (i : Nat) (f : Field), fs[i]? = some f → ∃ fuel y, DataW.trod enc P w 0 (fun _ => true) true fuel f.type ((x.drop f.offset).take (P.cellsOf f.type)) = some y := by
  obtain ⟨a, len, cap, rfl⟩ := okWide_slice ht hv
  obtain ⟨fuel, hf⟩ := h
  rcases DataW.trod_slice ht hf with ⟨hcs, -⟩ | ⟨ad, len', cap', elems, rest, n, -, hcs, -, -, hl, hm, hlen, hel, -, -⟩
  · simp [Value.cells] at hcs
    obtain ⟨rfl, rfl, rfl⟩ := hcs
    exact ⟨[], ⟨none, 0, rfl, Nat.le_refl _, by simp, fun h => absurd rfl h⟩, by simp⟩
  · simp [Value.cells] at hcs
    obtain ⟨rfl, rfl, rfl⟩ := hcs
    have each : ∀ i, i < len → ∃ cs, w.cells? 0 (ad.add (i * P.cellsOf e)) (P.cellsOf e) = some cs ∧ ∃ y, DataW.trod enc P w 0 (fun _ => true) true n e cs = some y := by
      intro i hi
      have h1 := hel i hi
      rw [List.getElem?_eq_getElem (by omega), Option.bind_eq_some_iff] at h1
      obtain ⟨cs, h2, h3⟩ := h1
      exact ⟨cs, h2, _, h3⟩
    let f : Nat → List Value := fun i => (w.cells? 0 (ad.add (i * P.cellsOf e)) (P.cellsOf e)).getD []
    refine ⟨(List.range len).map f, ⟨some ad, cap, by simp, by simpa using hl, hm, fun hne => ?_⟩, fun x hx => ?_⟩
    · have h0 : 0 < len := by
        apply Nat.pos_of_ne_zero
        rintro rfl
        simp at hne
      obtain ⟨cs0, hc0, -⟩ := each 0 h0
      obtain ⟨-, hl0, hg0⟩ := World.cells?_some hc0
      have h1 := hg0 0 hn
      rw [List.getElem?_eq_getElem (by omega), Nat.zero_mul] at h1
      obtain ⟨g, off, hh⟩ := addr_none h1
      have hadd0 : ad.add 0 = ad := by obtain ⟨b', o', s'⟩ := ad; unfold Addr.add; split <;> simp_all
      rw [hadd0] at hh
      subst hh
      refine ⟨g, off, rfl, fun j i x u hj hi => ?_⟩
      rw [List.getElem?_map] at hj
      obtain ⟨k, hk, rfl⟩ := Option.map_eq_some_iff.1 hj
      obtain ⟨hk1, hk2⟩ := List.getElem?_eq_some_iff.1 hk
      rw [List.length_range] at hk1
      rw [List.getElem_range] at hk2
      subst hk2
      obtain ⟨cs, hc, -⟩ := each j hk1
      have hfx : f j = cs := by show (w.cells? 0 _ _).getD [] = cs; rw [hc]; rfl
      rw [hfx] at hi
      obtain ⟨-, hl', hg'⟩ := World.cells?_some hc
      have hi' : i < P.cellsOf e := by rw [← hl']; exact (List.getElem?_eq_some_iff.1 hi).1
      have h2 := hg' i hi'
      rw [hi, add_none, add_none] at h2
      exact h2
    · obtain ⟨i, hi, rfl⟩ := List.mem_map.1 hx
      rw [List.mem_range] at hi
      obtain ⟨cs, hc, y, hy⟩ := each i hi
      have hfx : f i = cs := by show (w.cells? 0 _ _).getD [] = cs; rw [hc]; rfl
      rw [hfx]
      obtain ⟨-, hl', -⟩ := World.cells?_some hc
      obtain ⟨ys, m, _, _, _, hxl, hx'⟩ := DataW.trod_struct he hy
      refine ⟨hl', fun k fd hk => ?_⟩
      have hki : k < ys.length := by rw [hxl]; exact (Array.getElem?_eq_some_iff.1 hk).1
      exact ⟨m, ys[k], by rw [← List.getElem?_eq_getElem hki]; exact hx' k fd hk⟩
end
end Go.Proofs.YthiiehanlconeaaDoor
namespace Go.Proofs.YthiiehanlconeaaDoor
open Go.RowKit
set_option linter.unusedVariables false
set_option linter.unusedSimpArgs false

def u8C (zs : List Nat) : List Value := zs.map fun z : Nat => Value.int .u8 (z : Int)
theorem u8C_len (zs : List Nat) : (u8C zs).length = zs.length := List.length_map ..
def handlesM (L : List Int) (zs : List Nat) : List Int := zs.map fun z => L.getD (z % L.length) 0
def numbersM (n : Nat) (zs : List Nat) : List Int := zs.map fun z => ((z % n : Nat) : Int)
theorem tmod_nat (z n : Nat) : ((z : Int)).tmod (n : Int) = ((z % n : Nat) : Int) := by
  rw [Int.tmod_eq_emod_of_nonneg (by omega)]
  rfl
/-- A number of a row that came in. -/
theorem argU8 {w : World} {v : Value} {zs : List Nat} (h : ArgRow w v (u8C zs)) {k : Nat} (hk : k < zs.length) : ∃ g off cap, v = .slice (some ⟨g, off, none⟩) zs.length cap ∧ w.cell? ⟨g, off + k, none⟩ = some (.int .u8 (zs[k] : Nat)) := by
  obtain ⟨a, cap, rfl, -, -, h3⟩ := h
  obtain ⟨g, off, rfl, -, hc⟩ := h3 (by intro e; have := congrArg List.length e; rw [u8C_len, List.length_nil] at this; omega)
  rw [u8C_len]
  exact ⟨g, off, cap, rfl, hc k _ (by simp [u8C, hk])⟩

end Go.Proofs.YthiiehanlconeaaDoor
namespace Go.Proofs.YthiiehanlconeaaDoor
open Go.RowKit
set_option linter.unusedVariables false
set_option linter.unusedSimpArgs false

theorem digit_size (n : Nat) : ((⟨#[48, 49, 50, 51, 52, 53, 54, 55, 56, 57]⟩ : ByteArray).extract (n % 10) (n % 10 + 1)).size = 1 := by
  rw [ByteArray.size_extract]
  show min (n % 10 + 1) 10 - n % 10 = 1
  omega
end Go.Proofs.YthiiehanlconeaaDoor
namespace Go.Proofs.YthiiehanlconeaaDoor
open Go.RowKit
set_option linter.unusedVariables false
set_option linter.unusedSimpArgs false

structure Lk where
  frm : Nat
  sort : Nat
  to_ : Nat
  by_ : Nat
def Lk.cells (k : Lk) : List Value := [.int .u8 (k.frm : Int), .int .u8 (k.sort : Int), .int .u8 (k.to_ : Int), .int .u8 (k.by_ : Int)]
structure LkOk (k : Lk) : Prop where
  frm : k.frm < 256
  sort : k.sort < 256
  to_ : k.to_ < 256
  by_ : k.by_ < 256
def refV (h : Int) : Val := ⟨5, 0, ⟨#[]⟩, h⟩
def zVal : Val := ⟨0, 0, ⟨#[]⟩, 0⟩
def frameM (c : Nat) (h : Int) : Frm :=
  { kind := 0, func := 0, pc := 0, tkind := if c = 0 then 5 else 0, tint := 0, tstr := ⟨#[]⟩, tref := if c = 0 then h else 0, locals := if c = 1 then [⟨3, 1, ⟨#[]⟩, 0⟩, refV h] else [], stack := if c = 2 then [refV h] else [],
    env := if c = 3 then h else 0, scope := 0, mode := 0, object := if c = 4 then h else 0, host := 0, phase := 0, values := if c = 0 ∨ c = 1 ∨ c = 2 ∨ c = 3 ∨ c = 4 then [] else [refV h] }
def joinO (r c6 : Nat) (weak has : Bool) (key : ByteArray) (hb hc : Int) (o : Obj) : Option Obj :=
  if r = 0 then some { o with props := o.props ++ [⟨key, 5, 0, ⟨#[]⟩, hb⟩] }
  else if r = 1 then some { o with elems := o.elems ++ [refV hb] }
  else if r = 2 then (if weak then none else some { o with data := o.data ++ [refV hb] })
  else if r = 3 then (if o.env ≠ 0 then none else some { o with env := hb })
  else if r = 4 then (if o.proto ≠ 0 then none else some { o with proto := hb })
  else if r = 5 then some { o with saved := o.saved ++ [frameM c6 hb] }
  else if weak = false ∨ has = true then none else some { o with data := o.data ++ [refV hc, refV hb] }
def joinX (r b c : Nat) (x : RObj) : RObj := if r < 6 then { x with strong := x.strong ++ [b] } else { x with keys := x.keys ++ [c], vals := x.vals ++ [b] }
def joinM (key : ByteArray) (n : Nat) (L : List Int) (hp : Hp) (xs : List RObj) (k : Lk) : Hp × List RObj :=
  match joinO (k.sort % 7) (k.by_ % 6) (xs.getD (k.frm % n) noR).weak (decide (k.by_ % n ∈ (xs.getD (k.frm % n) noR).keys)) key (L.getD (k.to_ % n) 0) (L.getD (k.by_ % n) 0) (hp.slots.getD (12 + k.frm % n) noSlt).obj with
  | none => (hp, xs)
  | some o => (putO hp (12 + k.frm % n) o, xs.set (k.frm % n) (joinX (k.sort % 7) (k.to_ % n) (k.by_ % n) (xs.getD (k.frm % n) noR)))
theorem joinM_some {key : ByteArray} {n : Nat} {L : List Int} {hp : Hp} {xs : List RObj} {k : Lk} {a b c r c6 : Nat} {y : Obj} (ha : k.frm % n = a) (hb : k.to_ % n = b) (hc : k.by_ % n = c) (hr : k.sort % 7 = r) (h6 : k.by_ % 6 = c6)
    (h : joinO r c6 (xs.getD a noR).weak (decide (c ∈ (xs.getD a noR).keys)) key (L.getD b 0) (L.getD c 0) (hp.slots.getD (12 + a) noSlt).obj = some y) : joinM key n L hp xs k = (putO hp (12 + a) y, xs.set a (joinX r b c (xs.getD a noR))) := by
  unfold joinM
  rw [ha, hb, hc, hr, h6, h]
theorem joinM_none {key : ByteArray} {n : Nat} {L : List Int} {hp : Hp} {xs : List RObj} {k : Lk} {a b c r c6 : Nat} (ha : k.frm % n = a) (hb : k.to_ % n = b) (hc : k.by_ % n = c) (hr : k.sort % 7 = r) (h6 : k.by_ % 6 = c6)
    (h : joinO r c6 (xs.getD a noR).weak (decide (c ∈ (xs.getD a noR).keys)) key (L.getD b 0) (L.getD c 0) (hp.slots.getD (12 + a) noSlt).obj = none) : joinM key n L hp xs k = (hp, xs) := by
  unfold joinM
  rw [ha, hb, hc, hr, h6, h]
theorem frm_mk {w : World} {vl vs vv : Value} {Fl Fs Fv : List Nat} {s : Frm} (hl : (valR.row 38).own w [vl] s.locals Fl) (hs : (valR.row 38).own w [vs] s.stack Fs) (hv : (valR.row 38).own w [vv] s.values Fv) :
    frmR.own w [.int .i64 s.kind, .int .i64 s.func, .int .i64 s.pc, .int .i64 s.tkind, .int .i64 s.tint, .string s.tstr, .int .i64 s.tref, vl, vs, .int .i64 s.env, .int .i64 s.scope, .int .i64 s.mode, .int .i64 s.object, .int .i64 s.host, .int .i64 s.phase, vv] s (Fl ++ Fs ++ Fv) := ⟨vl, vs, vv, Fl, Fs, Fv, rfl, hl, hs, hv, rfl⟩
theorem vals_nil (w : World) : (valR.row 38).own w [.slice none 0 0] [] [] := ⟨_, [], [], rfl, RowAt.nil _ _ _, .nil, rfl⟩
theorem vals_len : ∀ l : List Val, (l.flatMap Val.cells).length = l.length * 4
  | [] => rfl
  | a :: l => by rw [List.flatMap_cons, List.length_append, vals_len l, Val.len, List.length_cons]; omega
theorem vals_late (W : World) (l : List Val) (bf j : Nat) (v : Value) (hn : l.length ≤ maxLen) (hb : bf ≠ W.heap.size) :
    (valR.row 38).own ((W.alloc (.cells (l.flatMap Val.cells).toArray 38)).setCell ⟨bf, j, none⟩ v) [.slice (some ⟨W.heap.size, 0, none⟩) l.length l.length] l [W.heap.size] :=
  (valR.row 38).chg (ofRow_flat (n := 4) (f := Val.cells) (hf := Val.len) (RowAt.lit (W := W) _ (vals_len l) hn)) (Chg.setCell _ _ _) (fun k hk e => hb (e.symm.trans (List.mem_singleton.1 hk)))
theorem one_late (W : World) (h : Int) :
    (valR.row 38).own (W.alloc (.cells #[.int .i64 5, .int .i64 0, .string ⟨#[]⟩, .int .i64 h] 38)) [.slice (some ⟨W.heap.size, 0, none⟩) 1 1] [refV h] [W.heap.size] :=
  ofRow_flat (n := 4) (f := Val.cells) (hf := Val.len) (l := [refV h]) (RowAt.lit (W := W) _ (vals_len [refV h]) (by simp [maxLen]))
theorem row_slice {β : Type} {B : Rep β} {e : TypeId} {w : World} {v : Value} {l : List β} {F : List Nat} (h : (B.row e).own w [v] l F) : ∃ p c, v = .slice p l.length c := by
  obtain ⟨v', xs, Fs, e', hr, -⟩ := h
  cases e'
  obtain ⟨p, c, rfl, -⟩ := hr.slice
  exact ⟨p, c, rfl⟩
theorem frm_late {W6 wd : World} {FBc : Array Value} {T bf j : Nat} {v : Value} {NB : _root_.Go.Obj} (h1 : Chg (fun _ => False) W6 wd) (hb : wd.heap[bf]? = some (.cells FBc T (0, 0))) (hbf : W6.heap.size ≤ bf) :
    Chg (fun _ => False) W6 ((wd.alloc NB).setCell ⟨bf, j, none⟩ v) ∧ ((wd.alloc NB).setCell ⟨bf, j, none⟩ v).heap[bf]? = some (.cells (FBc.setIfInBounds j v) T (0, 0)) :=
  ⟨(h1.allocR NB).trans (Chg.setCell _ _ _) (fun _ _ x => x) (fun i hi e => by have e' : i = bf := e; omega), setCell_block v ((Chg.alloc (fun _ => False) wd NB).keep hb (fun x => x))⟩
theorem mem_natJ {c : Nat} {l : List Nat} : ((c : Int) ∈ natI l) ↔ c ∈ l := by
  unfold natI
  rw [List.mem_map]
  constructor
  · rintro ⟨a, h, e⟩
    rwa [show c = a from by omega]
  · exact fun h => ⟨c, h, rfl⟩
theorem out_own {W W' : World} {v : Value} {l : List Nat} (h : OutI W W' v (natI l)) (h0 : 0 < l.length) : ∃ bs os c, v = .slice (some ⟨bs, os, none⟩) l.length c ∧ (natR.row 3).own W' [v] l [bs] ∧ W.heap.size ≤ bs := by
  obtain ⟨bs, os, c, rfl, -, -⟩ := h.row.addr (by rw [natI_len]; exact h0)
  have hr := h.row
  have e : intC (natI l) = l.flatMap fun n : Nat => [Value.int .i64 (n : Int)] := by rw [flatMap_one]; unfold intC natI; rw [List.map_map]; rfl
  rw [e, natI_len] at hr
  have := ofRow_flat (n := 1) (f := fun n : Nat => [Value.int .i64 (n : Int)]) (hf := fun _ => rfl) (l := l) hr
  rw [natI_len]
  exact ⟨bs, os, c, rfl, this, h.lo bs rfl⟩
/-- The block of a row in a field lies in the thing's footprint. -/
theorem Here.ownIn {α β : Type} {A : Rep α} {B : Rep β} {e : TypeId} {w : World} {b o k : Nat} {a : α} {F : List Nat} {get : α → List β} {set : α → List β → α} (fl : FieldOf A (B.row e) k get set) (hA : 0 < A.n) (H : Here A w b o a F) {v : Value} (hc : w.cell? ⟨b, o + k, none⟩ = some v) {j : Nat} (hj : v.ownBlock = some j) : j ∈ F := by
  obtain ⟨G, h1, h2, -⟩ := H.field fl hA
  obtain ⟨v', xs, Fs, hc', hopen⟩ := h1.openRow
  rw [hc] at hc'
  cases hc'
  exact h2 _ (by rw [hopen.fp]; exact List.mem_append_left _ (mem_ownL.2 hj))
theorem cell_kept {S : Nat → Prop} {w w' : World} (hc : Chg S w w') {k j : Nat} {v : Value} (hn : ¬ S k) (h : w.cell? ⟨k, j, none⟩ = some v) : w'.cell? ⟨k, j, none⟩ = some v := by
  cases hb : w.heap[k]? with
  | none => simp [World.cell?, hb] at h
  | some o =>
    have hb' := hc.keep hb hn
    simp only [World.cell?, hb, hb'] at h ⊢
    exact h
/-- The two graphs have n objects each. -/
structure GOk (n : Nat) (L : List Int) (hp : Hp) (xs : List RObj) : Prop where
  pos : 0 < n
  few : n ≤ 1000
  L : L = (List.range n).map fun i => handleM hp.base hp.stride ((12 + i : Nat) : Int)
  xs : xs.length = n
  slots : hp.slots.length = 12 + n
  used : ∀ s (h : s < hp.slots.length), hp.slots[s].used = true

end Go.Proofs.YthiiehanlconeaaDoor
namespace Go.Proofs.YthiiehanlconeaaDoor
open Go.RowKit
set_option linter.unusedVariables false
set_option linter.unusedSimpArgs false

def addsK (hp : Hp) (K : List Nat) (hs : List Int) : List Nat := hs.foldl (addK hp) K
def procK (hp : Hp) (em : Int → List Int) (K : List Nat) (s : Nat) : List Nat := addsK hp (addsK hp K (refsM (hp.slots.getD s noSlt).obj)) (em (handleM hp.base hp.stride (s : Nat)))
def drainM (hp : Hp) (em : Int → List Int) : Nat → List Nat → Nat → List Nat
  | 0, K, _ => K
  | f + 1, K, p => match K[p]? with
    | some s => drainM hp em f (procK hp em K s) (p + 1)
    | none => K
def liveM (hp : Hp) (em : Int → List Int) (N : Nat) : Nat → List Nat → Nat → List Nat
  | 0, K, _ => K
  | f + 1, K, p => if p < K.length then liveM hp em N f (weakM hp (drainM hp em N K p)) (drainM hp em N K p).length else K
section
variable {hp : Hp} {K : List Nat} {em : Int → List Int}
theorem addK_len (hp : Hp) (K : List Nat) (h : Int) : K.length ≤ (addK hp K h).length := by
  unfold addK
  split
  · exact addN_len _ _
  · exact Nat.le_refl _
theorem addsK_len (hp : Hp) : ∀ (hs : List Int) (K : List Nat), K.length ≤ (addsK hp K hs).length
  | [], K => Nat.le_refl _
  | h :: hs, K => Nat.le_trans (addK_len hp K h) (addsK_len hp hs _)
theorem addsK_snoc (hp : Hp) (K : List Nat) (hs : List Int) (h : Int) : addsK hp K (hs ++ [h]) = addK hp (addsK hp K hs) h := by unfold addsK; rw [List.foldl_append]; rfl
theorem addK_prefix (hp : Hp) (K : List Nat) (h : Int) : K <+: addK hp K h := by
  unfold addK
  split
  · exact addN_prefix _ _
  · exact List.prefix_refl _
theorem addsK_prefix (hp : Hp) : ∀ (hs : List Int) (K : List Nat), K <+: addsK hp K hs
  | [], K => List.prefix_refl _
  | h :: hs, K => (addK_prefix hp K h).trans (addsK_prefix hp hs _)
theorem prefix_get {K K' : List Nat} (h : K <+: K') {p s : Nat} (hs : K[p]? = some s) : ∃ hp : p < K'.length, K'[p] = s := by
  obtain ⟨t, rfl⟩ := h
  obtain ⟨h1, h2⟩ := List.getElem?_eq_some_iff.1 hs
  refine ⟨by rw [List.length_append]; omega, ?_⟩
  rw [List.getElem_append_left h1]; exact h2
theorem procK_len (s : Nat) : K.length ≤ (procK hp em K s).length := Nat.le_trans (addsK_len _ _ _) (addsK_len _ _ _)
theorem drainM_none {f p : Nat} (h : K.length ≤ p) : drainM hp em f K p = K := by
  cases f with
  | zero => rfl
  | succ f => simp only [drainM, List.getElem?_eq_none h]
theorem drainM_some {f p : Nat} (h : p < K.length) : drainM hp em (f + 1) K p = drainM hp em f (procK hp em K K[p]) (p + 1) := by simp only [drainM, List.getElem?_eq_getElem h]
theorem drainM_len : ∀ (f : Nat) (K : List Nat) (p : Nat), K.length ≤ (drainM hp em f K p).length
  | 0, K, p => Nat.le_refl _
  | f + 1, K, p => by
    by_cases h : p < K.length
    · rw [drainM_some h]; exact Nat.le_trans (procK_len _) (drainM_len f _ _)
    · rw [drainM_none (by omega)]; exact Nat.le_refl _
theorem liveM_done {N f p : Nat} (h : K.length ≤ p) : liveM hp em N f K p = K := by
  cases f with
  | zero => rfl
  | succ f => simp only [liveM, if_neg (Nat.not_lt.2 h)]
theorem liveM_step {N f p : Nat} (h : p < K.length) : liveM hp em N (f + 1) K p = liveM hp em N f (weakM hp (drainM hp em N K p)) (drainM hp em N K p).length := by simp only [liveM, if_pos h]
theorem wkV_len (hp : Hp) (K : List Nat) (p : Val × Val) : K.length ≤ (wkV hp K p).length := by
  unfold wkV
  split
  · exact addK_len _ _ _
  · exact Nat.le_refl _
theorem wkVs_len (hp : Hp) : ∀ (l : List (Val × Val)) (K : List Nat), K.length ≤ (l.foldl (wkV hp) K).length
  | [], K => Nat.le_refl _
  | a :: l, K => Nat.le_trans (wkV_len hp K a) (wkVs_len hp l _)
theorem weakS_len (hp : Hp) (K : List Nat) (s : Nat) : K.length ≤ (weakS hp K s).length := by
  unfold weakS weakObj
  split
  · exact wkVs_len _ _ _
  · exact Nat.le_refl _
theorem weakM_len (hp : Hp) (K : List Nat) : K.length ≤ (weakM hp K).length := by
  unfold weakM
  have : ∀ (l K0 : List Nat), K0.length ≤ (l.foldl (weakS hp) K0).length := by
    intro l
    induction l with
    | nil => intro K0; exact Nat.le_refl _
    | cons a l ih => intro K0; exact Nat.le_trans (weakS_len hp K0 a) (ih _)
  exact this K K
end

theorem eqD_nil (d : Nat) (W : World) : (Op.equalIn (d + 1) 68 .nilFunc .nilFunc).run Tryd.prog W = .ok true W := by
  rw [Op.equalIn]
  simp [run_underlying Tryd.underlying68]
theorem eqD_fn (d : Nat) (W : World) (f : Fn) (a b : Array Value) : (Op.equalIn (d + 1) 68 (.func f a b) .nilFunc).run Tryd.prog W = .ok false W := by
  rw [Op.equalIn]
  simp [run_underlying Tryd.underlying68]
theorem eqFn_nil (W : World) : (binOp .eql 68 .nilFunc .nilFunc).run Tryd.prog W = .ok (.bool true) W := by
  have h : (Op.equal 68 .nilFunc .nilFunc).run Tryd.prog W = .ok true W := by
    exact eqD_nil 9999 W
  simp [binOp, go_sem, h]
theorem eqFn_fn (W : World) (f : Fn) (a b : Array Value) : (binOp .eql 68 (.func f a b) .nilFunc).run Tryd.prog W = .ok (.bool false) W := by
  have h : (Op.equal 68 (.func f a b) .nilFunc).run Tryd.prog W = .ok false W := by
    exact eqD_fn 9999 W f a b
  simp [binOp, go_sem, h]
/-- The blocks of the rounds' deferred calls, all of them empty. -/
def markD (D : Nat) : Deferred := { target := .collected D, args := #[] }
structure DefsOk (w0 W : World) (ds : List Deferred) : Prop where
  ex : ∃ Ds : List Nat, ds = Ds.map markD ∧ Ds.Nodup ∧ ∀ D ∈ Ds, w0.heap.size ≤ D ∧ W.heap[D]? = some (.deferred (some []))
theorem DefsOk.nil (w0 W : World) : DefsOk w0 W [] := ⟨[], rfl, List.nodup_nil, fun _ h => by cases h⟩
theorem DefsOk.keep {w0 W W' : World} {ds : List Deferred} (h : DefsOk w0 W ds) (hk : ∀ D : Nat, W.heap[D]? = some (.deferred (some [])) → W'.heap[D]? = some (.deferred (some []))) : DefsOk w0 W' ds := by
  obtain ⟨Ds, e, hn, hd⟩ := h.ex
  exact ⟨Ds, e, hn, fun D hD => ⟨(hd D hD).1, hk D (hd D hD).2⟩⟩
theorem DefsOk.push {w0 W : World} {ds : List Deferred} {D : Nat} (h : DefsOk w0 W ds) (hD : w0.heap.size ≤ D) (hk : W.heap[D]? = some (.deferred (some []))) (hn : ∀ d ∈ ds, d ≠ markD D) : DefsOk w0 W (markD D :: ds) := by
  obtain ⟨Ds, rfl, hnd, hd⟩ := h.ex
  refine ⟨D :: Ds, rfl, List.nodup_cons.2 ⟨fun hx => hn _ (List.mem_map_of_mem hx) rfl, hnd⟩, fun E hE => ?_⟩
  rcases List.mem_cons.1 hE with rfl | x
  · exact ⟨hD, hk⟩
  · exact hd E x
/-- All marks are below a bound. -/
theorem DefsOk.lt {w0 W : World} {ds : List Deferred} (h : DefsOk w0 W ds) {D : Nat} (hD : markD D ∈ ds) : D < W.heap.size := by
  obtain ⟨Ds, rfl, -, hd⟩ := h.ex
  obtain ⟨E, hE, e⟩ := List.mem_map.1 hD
  have : E = D := by unfold markD at e; simpa using e
  subst this
  exact lt_of_block (hd E hE).2
/-- A function leaves with such marks. -/
theorem leaves_marks {P : Program} {fn : Func} {tmps : Array Value} {R : Ending → World → Prop} {n : Nat} : ∀ (Ds : List Nat) (w0 W : World), Ds.Nodup → (∀ D ∈ Ds, w0.heap.size ≤ D ∧ W.heap[D]? = some (.deferred (some []))) →
    (∀ W', Chg (fun k => k ∈ Ds) W W' → LeavesIn Fence.wide n P fn tmps R [] .returning W') → LeavesInM Fence.wide n P fn tmps R (Ds.map markD) .returning W
  | [], w0, W, _, _, h => h W (.refl _ _)
  | D :: Ds, w0, W, hn, hd, h => by
    obtain ⟨hn1, hn2⟩ := List.nodup_cons.1 hn
    obtain ⟨k1, k2⟩ := hd D (by simp)
    refine ⟨by simp, .inl ⟨D, _, rfl, run_takeDeferred k2, ?_⟩⟩
    refine leaves_marks Ds w0 _ hn2 (fun E hE => ?_) (fun W' hc => h W' ?_)
    · obtain ⟨e1, e2⟩ := hd E (by simp [hE])
      refine ⟨e1, ?_⟩
      rw [World.putObj_heap_other (by rintro rfl; exact hn1 hE)]
      exact e2
    · refine ((Chg.refl (fun k => k ∈ D :: Ds) W).putObj D _ (fun _ => by simp)).trans hc (fun _ _ x => x) (fun i _ x => List.mem_cons_of_mem _ x)

theorem mkBlocks {w : World} {bm : Nat} {m : Mk} {F : List Nat} (H : Here mkR w bm 0 m F) : (∃ c T, w.heap[bm]? = some (.cells c T (0, 0))) ∧ ∀ k ∈ F, ∃ c T, w.heap[k]? = some (.cells c T (0, 0)) := by
  refine ⟨H.boxed, fun k hk => ?_⟩
  obtain ⟨cs, ⟨v1, v2, F1, F2, rfl, h1, h2, rfl⟩, hc⟩ := H.cell
  obtain ⟨x1, e1, r1, rfl⟩ := row_flat.1 h1
  obtain ⟨x2, e2, r2, rfl⟩ := row_flat.1 h2
  have key : ∀ {e size n : Nat} {v : Value} {xs : List Value}, RowAt w e size v n xs → k ∈ ownL v → ∃ c T, w.heap[k]? = some (.cells c T (0, 0)) := by
    intro e size n v xs hr hk
    rcases hr.2 with ⟨rfl, -⟩ | ⟨g, off, cap, cur, rfl, hg, -⟩
    · simp [ownL, Value.ownBlock] at hk
    · rw [ownL_some, List.mem_singleton] at hk
      subst hk
      exact ⟨_, _, hg⟩
  rcases List.mem_append.1 hk with x | x
  · exact key r1 x
  · exact key r2 x

/-- Live's state: the marks, the variable that holds them, the deferred blocks. -/
structure LS (w0 W : World) (bx bm bh : Nat) (hp : Hp) (K : List Nat) (F : List Nat) (ds : List Deferred) : Prop where
  own : Own mkR w0 W bm 0 (mkOf bh hp K) F
  ok : KOk hp K
  box : W.heap[bx]? = some (.cells #[.pointer (some ⟨bm, 0, none⟩)] 69 (0, 0))
  bxF : bx ∉ F
  lo : w0.heap.size ≤ bx
  defs : DefsOk w0 W ds
section
variable {w0 W W' : World} {bx bm bh : Nat} {hp : Hp} {K K' : List Nat} {F F' : List Nat} {ds : List Deferred}
theorem LS.ne (h : LS w0 W bx bm bh hp K F ds) : bx ≠ bm := by
  rintro rfl
  obtain ⟨c, T, h1, h2⟩ := h.own.here.box
  rw [h.box] at h1
  cases h1
  have := mkR.len h2
  simp at this
  change min 3 1 = 3 at this
  omega
theorem LS.still (h : LS w0 W bx bm bh hp K F ds) (hc : Chg (fun _ => False) W W') : LS w0 W' bx bm bh hp K F ds :=
  ⟨h.own.still hc, h.ok, hc.keep h.box (fun x => x), h.bxF, h.lo, h.defs.keep fun D hD => hc.keep hD (fun x => x)⟩
theorem LS.step (h : LS w0 W bx bm bh hp K F ds) (ho : Own mkR w0 W' bm 0 (mkOf bh hp K') F') (hk : KOk hp K') (hs : Step W W' bm 0 3 F F') : LS w0 W' bx bm bh hp K' F' ds := by
  obtain ⟨⟨c, T, hb⟩, hF⟩ := mkBlocks h.own.here
  refine ⟨ho, hk, hs.chg.keep h.box (fun x => x.elim h.ne h.bxF), fun hx => ?_, h.lo, h.defs.keep fun D hD => hs.chg.keep hD ?_⟩
  · rcases hs.new bx hx with x | x
    · exact h.bxF x
    · have := lt_of_block h.box; omega
  · rintro (rfl | x)
    · rw [hb] at hD; cases hD
    · obtain ⟨c2, T2, h2⟩ := hF D x
      rw [h2] at hD; cases hD
theorem LS.cell (h : LS w0 W bx bm bh hp K F ds) : W.cell? ⟨bx, 0, none⟩ = some (.pointer (some ⟨bm, 0, none⟩)) := cell_of_block h.box rfl
theorem LS.listCell (h : LS w0 W bx bm bh hp K F ds) : ∃ a cap, W.cell? ⟨bm, 2, none⟩ = some (.slice a K.length cap) ∧ ∀ p (hp' : p < K.length), ∃ g off, a = some ⟨g, off, none⟩ ∧ W.cell? ⟨g, off + p, none⟩ = some (.int .i64 (handleM hp.base hp.stride (K[p] : Nat))) := by
  obtain ⟨-, -, ⟨a, cap, m2⟩⟩ := mkCells h.own.here
  obtain ⟨p, c, hv, hsv⟩ := SnapV.start h.own.here m2
  have hll : (mkOf bh hp K).list.length = K.length := by show (K.map _).length = _; simp
  rw [hll] at m2
  refine ⟨a, cap, m2, fun q hq => ?_⟩
  cases hv
  rcases hsv with hx | ⟨g, off, h1, -, h3⟩
  · rw [hx] at hll
    simp at hll
    omega
  · refine ⟨g, off, h1, ?_⟩
    have := h3 q (by rw [hll]; exact hq)
    rw [this]
    show some (Value.int .i64 ((K.map fun i => handleM hp.base hp.stride (i : Nat))[q]'(by simpa using hq))) = _
    simp
end
/-- What is handed back, behind the turn of the deferred blocks. -/
theorem LS.out {w0 W W' : World} {bx bm bh : Nat} {hp : Hp} {K : List Nat} {F : List Nat} {ds : List Deferred} {Ds : List Nat} {v : Value} (h : LS w0 W bx bm bh hp K F ds) (hv : W.cell? ⟨bm, 2, none⟩ = some v)
    (hd : ∀ D ∈ Ds, w0.heap.size ≤ D ∧ W.heap[D]? = some (.deferred (some []))) (hc : Chg (fun k => k ∈ Ds) W W') : OutI w0 W' v (K.map fun i => handleM hp.base hp.stride (i : Nat)) := by
  obtain ⟨cs, ⟨v1, v2, F1, F2, rfl, h1, h2, hF⟩, hcell⟩ := h.own.here.cell
  obtain ⟨x2, e2, r2, hF2⟩ := row_flat.1 h2
  obtain rfl : v2 = x2 := by simpa using e2
  have c2 := hcell 2 _ rfl
  simp only [Nat.zero_add] at c2
  rw [hv] at c2
  cases c2
  have hvF : ∀ k, v.ownBlock = some k → k ∈ F := fun k hk => by rw [hF, hF2]; exact List.mem_append_right _ (mem_ownL.2 hk)
  have hvD : ∀ k, v.ownBlock = some k → ¬ k ∈ Ds := fun k hk hD => by
    obtain ⟨c, T, hb⟩ := (mkBlocks h.own.here).2 k (hvF k hk)
    rw [(hd k hD).2] at hb
    cases hb
  refine ⟨?_, fun k hk => h.own.los k (hvF k hk), h.own.chg.trans hc (fun _ _ x => x) (fun i hi x => by have := (hd i x).1; omega)⟩
  have hr := r2.chg hc hvD
  rw [flatMap_one] at hr
  exact hr
/-- A step of the rounds: where the marks may lie. -/
structure LI (w0 wS W : World) (bx bm bh : Nat) (hp : Hp) (K : List Nat) (ds : List Deferred) (B1 : Nat) : Prop where
  ex : ∃ F, LS w0 W bx bm bh hp K F ds ∧ (∀ k ∈ F, k < wS.heap.size ∨ B1 ≤ k)
  lo : bm < wS.heap.size ∧ bx < wS.heap.size
  sz : B1 ≤ W.heap.size
section
variable {w0 wS W W' : World} {bx bm bh : Nat} {hp : Hp} {K K' : List Nat} {ds : List Deferred} {B1 : Nat}
theorem LI.start {F : List Nat} (h : LS w0 wS bx bm bh hp K F ds) (hc : Chg (fun _ => False) wS W) : LI w0 wS W bx bm bh hp K ds W.heap.size :=
  ⟨⟨F, h.still hc, fun k hk => .inl (h.own.here.lt.2 k hk)⟩, ⟨h.own.here.lt.1, lt_of_block h.box⟩, Nat.le_refl _⟩
theorem LI.putObj (h : LI w0 wS W bx bm bh hp K ds B1) {l : Nat} {o o' : _root_.Go.Obj} (hl : wS.heap.size ≤ l) (ho : W.heap[l]? = some o) (hoc : o.isCells = false) (hd : ∀ d ∈ ds, d ≠ markD l) : LI w0 wS (W.putObj l o') bx bm bh hp K ds B1 := by
  obtain ⟨F, hs, hF⟩ := h.ex
  obtain ⟨⟨c, T, hb⟩, hFc⟩ := mkBlocks hs.own.here
  have hne : ∀ k c T, W.heap[k]? = some (.cells c T (0, 0)) → k ≠ l := by
    rintro k c T hk rfl
    rw [hk] at ho
    cases ho
    simp [_root_.Go.Obj.isCells] at hoc
  have hc : Chg (fun k => k = l) W (W.putObj l o') := (Chg.refl _ W).putObj l o' (fun _ => rfl)
  refine ⟨⟨F, ⟨⟨hs.own.here.chg hc (hne _ _ _ hb) (fun k hk => by obtain ⟨c2, T2, h2⟩ := hFc k hk; exact hne _ _ _ h2), hs.own.chg.trans hc (fun _ _ x => x) (fun i hi e => ?_), hs.own.lo, hs.own.los⟩, hs.ok, hc.keep hs.box (hne _ _ _ hs.box), hs.bxF, hs.lo, ?_⟩, hF⟩, h.lo, ?_⟩
  · have := h.lo.1
    have := hs.own.lo
    omega
  · obtain ⟨Ds, rfl, hnd, hdd⟩ := hs.defs.ex
    exact ⟨Ds, rfl, hnd, fun D hD => ⟨(hdd D hD).1, hc.keep (hdd D hD).2 (fun e => hd _ (List.mem_map_of_mem hD) (by rw [e]))⟩⟩
  · have := h.sz
    have := hc.size
    omega
theorem LI.step {F F' : List Nat} (hs : LS w0 W bx bm bh hp K F ds) (hF : ∀ k ∈ F, k < wS.heap.size ∨ B1 ≤ k) (hlo : bm < wS.heap.size ∧ bx < wS.heap.size) (hsz : B1 ≤ W.heap.size) (ho : Own mkR w0 W' bm 0 (mkOf bh hp K') F') (hk : KOk hp K') (hst : Step W W' bm 0 3 F F') :
    LI w0 wS W' bx bm bh hp K' ds B1 ∧ ∀ k o, wS.heap.size ≤ k → k < B1 → W.heap[k]? = some o → W'.heap[k]? = some o := by
  refine ⟨⟨⟨F', hs.step ho hk hst, fun k hk => ?_⟩, hlo, Nat.le_trans hsz hst.chg.size⟩, fun k o h1 h2 hko => hst.chg.keep hko ?_⟩
  · rcases hst.new k hk with x | x
    · exact hF k x
    · exact .inr (Nat.le_trans hsz x)
  · rintro (rfl | x)
    · omega
    · rcases hF k x with y | y <;> omega
end
end Go.Proofs.YthiiehanlconeaaDoor
namespace Go.Proofs.YthiiehanlconeaaDoor
open Go.RowKit
set_option linter.unusedVariables false
set_option linter.unusedSimpArgs false

/-- The further references: none, or a function of the law's. -/
def EdgesOk (w0 : World) (ve : Value) (em : Int → List Int) : Prop :=
  (ve = .nilFunc ∧ em = fun _ => []) ∨
  False
theorem bodyM_eq {fn : Func} {R : Ending → World → Prop} {a : Act} {w : World} {n : Nat} {P : Program} : bodyPostM Fence.wide n P fn R .ret a w = LeavesInM Fence.wide n P fn a.tmps R a.defers .returning w := rfl

set_option maxHeartbeats 12800000 in
set_option maxRecDepth 100000 in
theorem live_any (w0 : World) (bh : Nat) (hp : Hp) (Fh : List Nat) (vr ve : Value) (roots : List Int) (em : Int → List Int) (HH : Here hpR w0 bh 0 hp Fh) (hok : HpOk hp)
    (hr : RowAt w0 3 1 vr roots.length (intC roots)) (hrl : roots.length ≤ 1000000) (hri : ∀ r ∈ roots, InI r) (hE : EdgesOk w0 ve em) :
    Calls Tryd.prog 10 #[.pointer (some ⟨bh, 0, none⟩), vr, ve] w0 fun e w' => ∃ v', e = .returned v' ∧
      OutI w0 w' v' ((liveM hp em hp.slots.length hp.slots.length (addsK hp [] roots) 0).map fun i => handleM hp.base hp.stride (i : Nat)) := by
  refine (callsIn_wide (n := 9)).1 (callsIn_of_wp_marks Tryd.func10 rfl trivial ?_)
  refine (wpIn_wide (n := 9) (P := Tryd.prog)).2 ?_
  obtain ⟨ar, cr, rfl, -⟩ := hr.slice
  have HHH := Lib.hid HH
  have HOK := Lib.hid hok
  have HR := Lib.hid hr
  have HRI := Lib.hid hri
  have HEE := Lib.hid hE
  have HMK := Lib.hid (marked_any w0 bh hp Fh HH hok.few)
  have hln : (roots.length : Int) ≤ 9223372036854775807 := by omega
  obtain ⟨-, -, ⟨ah, caph, ch2⟩, -⟩ := hpCells HH
  have HCH2 := Lib.hid ch2
  clear HH hok hr hri hE ch2 hrl
  simp only [Tryd.ntmps10, List.size_toArray, List.length_cons, List.length_nil, Nat.reduceAdd, Nat.reduceSub, Array.replicate_succ, Array.replicate_zero, List.push_toArray, List.append_toArray, List.nil_append, List.cons_append]
  go_upto_region 2 with (first | (go_at_call 21; refine HMK.out.mono ?_; rintro e w1 ⟨bm, rfl, HMI⟩))
  have LS0 : ∃ F, LS w0 (w1.alloc (.cells #[.pointer (some ⟨bm, 0, none⟩)] 69)) w1.heap.size bm bh hp [] F [] := by
    obtain ⟨F, ho⟩ := HMI.own
    have hl := ho.here.lt
    exact ⟨F, ho.still (Chg.alloc _ _ _), HMI.good, alloc_block _ _, fun x => by have := hl.2 _ x; omega, ho.chg.size, DefsOk.nil _ _⟩
  obtain ⟨F0, LS0⟩ := LS0
  have HL0 := Lib.hid LS0
  clear LS0 HMI HMK
  generalize w1.alloc (.cells #[.pointer (some ⟨bm, 0, none⟩)] 69) = w2 at *
  generalize w1.heap.size = bx at *
  go_wp2_with fail
  go_loopw [9, 18] (fun _ u18 wr => ∃ (k : Nat) (F : List Nat), k ≤ roots.length ∧ u18 = .int .i64 k ∧ Hid (LS w0 wr bx bm bh hp (addsK hp [] (roots.take k)) F [])) (fun _ u18 _ => roots.length - (intOf u18).toNat)
  case atStart => exact ⟨0, F0, by omega, rfl, HL0⟩
  case round =>
    obtain ⟨k, F, hk, rfl, HL⟩ := hrel
    clear HL0
    by_cases hlt : k < roots.length
    · have h0 : (0 : Int) ≤ (k : Int) := by omega
      have h1 : (k : Int) < (roots.length : Int) := by omega
      have hr2 := HR.out.chg HL.out.own.chg (fun _ _ x => x)
      obtain ⟨gr, oR, cR, hv, -, -⟩ := hr2.addr (by omega)
      cases hv
      have c0 := hr2.cellAt k (.int .i64 roots[k]) (by simp [intC, hlt])
      have w64 : IntKind.i64.wrap ((k : Int) + 1) = ((k + 1 : Nat) : Int) := IntWalk.i64_in _ (by omega)
      have HT : Hid (addsK hp [] (roots.take (k + 1)) = addK hp (addsK hp [] (roots.take k)) roots[k]) := Lib.hid (by rw [List.take_succ_eq_append_getElem hlt, addsK_snoc])
      have HLT := Lib.hid hlt
      have HNX := Lib.hid (show k + 1 ≤ roots.length from hlt)
      have HIN := Lib.hid (HRI.out _ (List.getElem_mem hlt))
      have cb := HL.out.cell
      clear hk hr2
      generalize roots[k] = z at *
      clear hlt
      have HAD := Lib.hid (madd_any w0 wr bm bh hp Fh _ z HHH.out F HL.out.own HL.out.ok HIN.out HOK.out.few)
      go_wp2_with (first | (go_at_call 22; refine HAD.out.mono ?_; rintro e wa ⟨rfl, F2, ho2, hk2, hs2, -⟩))
      go_roundw
      case rel => exact ⟨k + 1, F2, HNX.out, rfl, by rw [HT.out]; exact Lib.hid (HL.out.step ho2 hk2 hs2)⟩
      case measure => have := HLT.out; simp [intOf, w64]; omega
    · have hk2 : k = roots.length := by omega
      subst hk2
      rw [List.take_length] at HL
      clear hlt hk
      obtain ⟨T, hT⟩ : ∃ T, liveM hp em hp.slots.length hp.slots.length (addsK hp [] roots) 0 = T := ⟨_, rfl⟩
      have HTT := Lib.hid hT
      have HTE := Lib.hid hT
      clear hT
      go_wp2_with fail
      refine wp_loop (fun a' w' => ∃ (u1 u3 u4 u5 u6 u8 u9 u11 u12 u13 u14 u15 u16 u17 u18 u19 u20 u21 u22 u23 u24 u25 u26 u27 u28 u29 u30 u31 u32 u33 u34 u35 u36 u37 u38 u39 u40 u41 u42 u43 u44 u45 u46 u47 u48 u49 u50 u51 u52 u53 u54 u55 u56 u57 u58 u59 u60 u61 u62 u63 u64 u65 u66 u67 u68 u69 u70 u71 u72 u73 u74 u75 u76 u77 u78 u79 u80 u81 : Value) (ds : List Deferred) (K : List Nat) (F : List Nat) (p f : Nat), (p ≤ K.length ∧ hp.slots.length - p ≤ f ∧ Hid (liveM hp em hp.slots.length f K p = T) ∧ Hid (LS w0 w' bx bm bh hp K F ds)) ∧ a' = { tmps := #[.pointer (some ⟨bh, 0, none⟩), u1, ve, u3, u4, u5, u6, .pointer (some ⟨bx, 0, none⟩), u8, u9, .int .i64 (p : Int), u11, u12, u13, u14, u15, u16, u17, u18, u19, u20, u21, u22, u23, u24, u25, u26, u27, u28, u29, u30, u31, u32, u33, u34, u35, u36, u37, u38, u39, u40, u41, u42, u43, u44, u45, u46, u47, u48, u49, u50, u51, u52, u53, u54, u55, u56, u57, u58, u59, u60, u61, u62, u63, u64, u65, u66, u67, u68, u69, u70, u71, u72, u73, u74, u75, u76, u77, u78, u79, u80, u81], defers := ds }) (fun a' _ => hp.slots.length - (intOf (a'.tmps.getD 10 undef)).toNat) ?_ ?_
      · (repeat apply Exists.intro)
        refine ⟨?_, rfl⟩
        exact ⟨Nat.zero_le _, Nat.le_refl _, HTT, HL⟩
      clear HTT HL
      intro a' wr hinv
      obtain ⟨u1, hinv⟩ := hinv
      obtain ⟨u3, hinv⟩ := hinv
      obtain ⟨u4, hinv⟩ := hinv
      obtain ⟨u5, hinv⟩ := hinv
      obtain ⟨u6, hinv⟩ := hinv
      obtain ⟨u8, hinv⟩ := hinv
      obtain ⟨u9, hinv⟩ := hinv
      obtain ⟨u11, hinv⟩ := hinv
      obtain ⟨u12, hinv⟩ := hinv
      obtain ⟨u13, hinv⟩ := hinv
      obtain ⟨u14, hinv⟩ := hinv
      obtain ⟨u15, hinv⟩ := hinv
      obtain ⟨u16, hinv⟩ := hinv
      obtain ⟨u17, hinv⟩ := hinv
      obtain ⟨u18, hinv⟩ := hinv
      obtain ⟨u19, hinv⟩ := hinv
      obtain ⟨u20, hinv⟩ := hinv
      obtain ⟨u21, hinv⟩ := hinv
      obtain ⟨u22, hinv⟩ := hinv
      obtain ⟨u23, hinv⟩ := hinv
      obtain ⟨u24, hinv⟩ := hinv
      obtain ⟨u25, hinv⟩ := hinv
      obtain ⟨u26, hinv⟩ := hinv
      obtain ⟨u27, hinv⟩ := hinv
      obtain ⟨u28, hinv⟩ := hinv
      obtain ⟨u29, hinv⟩ := hinv
      obtain ⟨u30, hinv⟩ := hinv
      obtain ⟨u31, hinv⟩ := hinv
      obtain ⟨u32, hinv⟩ := hinv
      obtain ⟨u33, hinv⟩ := hinv
      obtain ⟨u34, hinv⟩ := hinv
      obtain ⟨u35, hinv⟩ := hinv
      obtain ⟨u36, hinv⟩ := hinv
      obtain ⟨u37, hinv⟩ := hinv
      obtain ⟨u38, hinv⟩ := hinv
      obtain ⟨u39, hinv⟩ := hinv
      obtain ⟨u40, hinv⟩ := hinv
      obtain ⟨u41, hinv⟩ := hinv
      obtain ⟨u42, hinv⟩ := hinv
      obtain ⟨u43, hinv⟩ := hinv
      obtain ⟨u44, hinv⟩ := hinv
      obtain ⟨u45, hinv⟩ := hinv
      obtain ⟨u46, hinv⟩ := hinv
      obtain ⟨u47, hinv⟩ := hinv
      obtain ⟨u48, hinv⟩ := hinv
      obtain ⟨u49, hinv⟩ := hinv
      obtain ⟨u50, hinv⟩ := hinv
      obtain ⟨u51, hinv⟩ := hinv
      obtain ⟨u52, hinv⟩ := hinv
      obtain ⟨u53, hinv⟩ := hinv
      obtain ⟨u54, hinv⟩ := hinv
      obtain ⟨u55, hinv⟩ := hinv
      obtain ⟨u56, hinv⟩ := hinv
      obtain ⟨u57, hinv⟩ := hinv
      obtain ⟨u58, hinv⟩ := hinv
      obtain ⟨u59, hinv⟩ := hinv
      obtain ⟨u60, hinv⟩ := hinv
      obtain ⟨u61, hinv⟩ := hinv
      obtain ⟨u62, hinv⟩ := hinv
      obtain ⟨u63, hinv⟩ := hinv
      obtain ⟨u64, hinv⟩ := hinv
      obtain ⟨u65, hinv⟩ := hinv
      obtain ⟨u66, hinv⟩ := hinv
      obtain ⟨u67, hinv⟩ := hinv
      obtain ⟨u68, hinv⟩ := hinv
      obtain ⟨u69, hinv⟩ := hinv
      obtain ⟨u70, hinv⟩ := hinv
      obtain ⟨u71, hinv⟩ := hinv
      obtain ⟨u72, hinv⟩ := hinv
      obtain ⟨u73, hinv⟩ := hinv
      obtain ⟨u74, hinv⟩ := hinv
      obtain ⟨u75, hinv⟩ := hinv
      obtain ⟨u76, hinv⟩ := hinv
      obtain ⟨u77, hinv⟩ := hinv
      obtain ⟨u78, hinv⟩ := hinv
      obtain ⟨u79, hinv⟩ := hinv
      obtain ⟨u80, hinv⟩ := hinv
      obtain ⟨u81, hinv⟩ := hinv
      obtain ⟨ds, hinv⟩ := hinv
      obtain ⟨K, hinv⟩ := hinv
      obtain ⟨F, hinv⟩ := hinv
      obtain ⟨p, hinv⟩ := hinv
      obtain ⟨f, hinv⟩ := hinv
      obtain ⟨⟨hpl, hf, HT, HL⟩, ha⟩ := hinv
      subst ha
      try dsimp only
      have cb := HL.out.cell
      obtain ⟨al, cl, m2, -⟩ := HL.out.listCell
      have HGL := Lib.hid (good_len _ _ HL.out.ok.good)
      have h0 : (0 : Int) ≤ (p : Int) := by omega
      have hln2 : (K.length : Int) ≤ 9223372036854775807 := by have := HGL.out; have := HOK.out.few; omega
      by_cases hlt : p < K.length
      · have h1 : (p : Int) < (K.length : Int) := by omega
        obtain ⟨f, rfl⟩ : ∃ f', f = f' + 1 := ⟨f - 1, by have := HGL.out; omega⟩
        rw [liveM_step hlt] at HT
        obtain ⟨D1, hD1⟩ : ∃ D1, drainM hp em hp.slots.length K p = D1 := ⟨_, rfl⟩
        rw [hD1] at HT
        have HD1 := Lib.hid hD1
        have HD1L : Hid (p < D1.length) := Lib.hid (by rw [← hD1]; exact Nat.lt_of_lt_of_le hlt (drainM_len _ _ _))
        have HPL := Lib.hid hlt
        have HFF := Lib.hid hf
        have HPN : Hid (p < hp.slots.length) := Lib.hid (by have := HGL.out; omega)
        clear hD1 hpl hf
        go_wp2_with fail
        clear cb m2 h0 h1 hlt
        refine wp_loop (fun a' w' => ∃ (u1b u3b u4b u5b u6b u8b u9b u11b u12b u13b u14b u15b u16b u17b u18b u19b u20b u21b u22b u23b u24b u25b u26b u27b u28b u29b u30b u31b u32b u33b u34b u35b u36b u37b u38b u39b u40b u41b u42b u43b u44b u45b u46b u47b u48b u49b u50b u51b u52b u53b u54b u55b u56b u57b u58b u59b u60b u61b u62b u63b u64b u65b u66b u67b u68b u69b u70b u71b u72b u73b u74b u75b u76b u77b u78b u79b u80b u81b : Value) (ds2 : List Deferred) (K2 : List Nat) (F2 : List Nat) (p2 f2 : Nat), (p2 ≤ K2.length ∧ hp.slots.length - p2 ≤ f2 ∧ Hid (drainM hp em f2 K2 p2 = D1) ∧ Hid (LS w0 w' bx bm bh hp K2 F2 ds2)) ∧ a' = { tmps := #[.pointer (some ⟨bh, 0, none⟩), u1b, ve, u3b, u4b, u5b, u6b, .pointer (some ⟨bx, 0, none⟩), u8b, u9b, .int .i64 (p2 : Int), u11b, u12b, u13b, u14b, u15b, u16b, u17b, u18b, u19b, u20b, u21b, u22b, u23b, u24b, u25b, u26b, u27b, u28b, u29b, u30b, u31b, u32b, u33b, u34b, u35b, u36b, u37b, u38b, u39b, u40b, u41b, u42b, u43b, u44b, u45b, u46b, u47b, u48b, u49b, u50b, u51b, u52b, u53b, u54b, u55b, u56b, u57b, u58b, u59b, u60b, u61b, u62b, u63b, u64b, u65b, u66b, u67b, u68b, u69b, u70b, u71b, u72b, u73b, u74b, u75b, u76b, u77b, u78b, u79b, u80b, u81b], defers := ds2 }) (fun a' _ => hp.slots.length - (intOf (a'.tmps.getD 10 undef)).toNat) ?_ ?_
        · (repeat apply Exists.intro)
          refine ⟨?_, rfl⟩
          exact ⟨Nat.le_of_lt HPL.out, by omega, HD1, HL⟩
        clear HL HGL al cl hln2
        intro a' wr hinv
        obtain ⟨u1b, hinv⟩ := hinv
        obtain ⟨u3b, hinv⟩ := hinv
        obtain ⟨u4b, hinv⟩ := hinv
        obtain ⟨u5b, hinv⟩ := hinv
        obtain ⟨u6b, hinv⟩ := hinv
        obtain ⟨u8b, hinv⟩ := hinv
        obtain ⟨u9b, hinv⟩ := hinv
        obtain ⟨u11b, hinv⟩ := hinv
        obtain ⟨u12b, hinv⟩ := hinv
        obtain ⟨u13b, hinv⟩ := hinv
        obtain ⟨u14b, hinv⟩ := hinv
        obtain ⟨u15b, hinv⟩ := hinv
        obtain ⟨u16b, hinv⟩ := hinv
        obtain ⟨u17b, hinv⟩ := hinv
        obtain ⟨u18b, hinv⟩ := hinv
        obtain ⟨u19b, hinv⟩ := hinv
        obtain ⟨u20b, hinv⟩ := hinv
        obtain ⟨u21b, hinv⟩ := hinv
        obtain ⟨u22b, hinv⟩ := hinv
        obtain ⟨u23b, hinv⟩ := hinv
        obtain ⟨u24b, hinv⟩ := hinv
        obtain ⟨u25b, hinv⟩ := hinv
        obtain ⟨u26b, hinv⟩ := hinv
        obtain ⟨u27b, hinv⟩ := hinv
        obtain ⟨u28b, hinv⟩ := hinv
        obtain ⟨u29b, hinv⟩ := hinv
        obtain ⟨u30b, hinv⟩ := hinv
        obtain ⟨u31b, hinv⟩ := hinv
        obtain ⟨u32b, hinv⟩ := hinv
        obtain ⟨u33b, hinv⟩ := hinv
        obtain ⟨u34b, hinv⟩ := hinv
        obtain ⟨u35b, hinv⟩ := hinv
        obtain ⟨u36b, hinv⟩ := hinv
        obtain ⟨u37b, hinv⟩ := hinv
        obtain ⟨u38b, hinv⟩ := hinv
        obtain ⟨u39b, hinv⟩ := hinv
        obtain ⟨u40b, hinv⟩ := hinv
        obtain ⟨u41b, hinv⟩ := hinv
        obtain ⟨u42b, hinv⟩ := hinv
        obtain ⟨u43b, hinv⟩ := hinv
        obtain ⟨u44b, hinv⟩ := hinv
        obtain ⟨u45b, hinv⟩ := hinv
        obtain ⟨u46b, hinv⟩ := hinv
        obtain ⟨u47b, hinv⟩ := hinv
        obtain ⟨u48b, hinv⟩ := hinv
        obtain ⟨u49b, hinv⟩ := hinv
        obtain ⟨u50b, hinv⟩ := hinv
        obtain ⟨u51b, hinv⟩ := hinv
        obtain ⟨u52b, hinv⟩ := hinv
        obtain ⟨u53b, hinv⟩ := hinv
        obtain ⟨u54b, hinv⟩ := hinv
        obtain ⟨u55b, hinv⟩ := hinv
        obtain ⟨u56b, hinv⟩ := hinv
        obtain ⟨u57b, hinv⟩ := hinv
        obtain ⟨u58b, hinv⟩ := hinv
        obtain ⟨u59b, hinv⟩ := hinv
        obtain ⟨u60b, hinv⟩ := hinv
        obtain ⟨u61b, hinv⟩ := hinv
        obtain ⟨u62b, hinv⟩ := hinv
        obtain ⟨u63b, hinv⟩ := hinv
        obtain ⟨u64b, hinv⟩ := hinv
        obtain ⟨u65b, hinv⟩ := hinv
        obtain ⟨u66b, hinv⟩ := hinv
        obtain ⟨u67b, hinv⟩ := hinv
        obtain ⟨u68b, hinv⟩ := hinv
        obtain ⟨u69b, hinv⟩ := hinv
        obtain ⟨u70b, hinv⟩ := hinv
        obtain ⟨u71b, hinv⟩ := hinv
        obtain ⟨u72b, hinv⟩ := hinv
        obtain ⟨u73b, hinv⟩ := hinv
        obtain ⟨u74b, hinv⟩ := hinv
        obtain ⟨u75b, hinv⟩ := hinv
        obtain ⟨u76b, hinv⟩ := hinv
        obtain ⟨u77b, hinv⟩ := hinv
        obtain ⟨u78b, hinv⟩ := hinv
        obtain ⟨u79b, hinv⟩ := hinv
        obtain ⟨u80b, hinv⟩ := hinv
        obtain ⟨u81b, hinv⟩ := hinv
        obtain ⟨ds2, hinv⟩ := hinv
        obtain ⟨K2, hinv⟩ := hinv
        obtain ⟨F2, hinv⟩ := hinv
        obtain ⟨p2, hinv⟩ := hinv
        obtain ⟨f2, hinv⟩ := hinv
        obtain ⟨⟨hpl, hf, HD, HL⟩, ha⟩ := hinv
        subst ha
        try dsimp only
        have cb := HL.out.cell
        obtain ⟨al, cl, m2, hel⟩ := HL.out.listCell
        have HGL := Lib.hid (good_len _ _ HL.out.ok.good)
        have h0 : (0 : Int) ≤ (p2 : Int) := by omega
        have hln2 : (K2.length : Int) ≤ 9223372036854775807 := by have := HGL.out; have := HOK.out.few; omega
        by_cases hlt : p2 < K2.length
        · have h1 : (p2 : Int) < (K2.length : Int) := by omega
          obtain ⟨f2, rfl⟩ : ∃ f', f2 = f' + 1 := ⟨f2 - 1, by have := HGL.out; omega⟩
          rw [drainM_some hlt] at HD
          obtain ⟨g, off, rfl, c0⟩ := hel p2 hlt
          have hKi := List.getElem_mem hlt
          have hs := HL.out.ok.good.lt _ hKi
          have hus := HL.out.ok.used _ hKi
          have hso := slotOf_handle hs hus HOK.out.few
          have hhi := handle_in hp.base hp.stride (i := K2[p2]) (by have := HOK.out.few; omega)
          have HPL2 := Lib.hid (show p2 + 1 ≤ K2.length from hlt)
          have HFF2 : Hid (hp.slots.length - (p2 + 1) ≤ f2) := Lib.hid (by omega)
          have HPN2 : Hid (p2 < hp.slots.length) := Lib.hid (by have := HGL.out; omega)
          have w64 : IntKind.i64.wrap ((p2 : Int) + 1) = ((p2 + 1 : Nat) : Int) := IntWalk.i64_in _ (by have := HGL.out; have := HOK.out.few; omega)
          have HKS : Hid (K2[p2]? = some K2[p2]) := Lib.hid (List.getElem?_eq_getElem hlt)
          generalize K2[p2] = s at *
          have hA := hat_any wr bh 0 hp Fh (handleM hp.base hp.stride (s : Nat)) (.slice ah hp.slots.length caph) (HHH.out.still HL.out.own.chg) (HL.out.own.chg.cell HCH2.out) (by omega)
          obtain ⟨gh, oh, rfl, hptr, Go_, hobj⟩ := hpObj HHH.out HCH2.out hs
          rw [hso, hptr] at hA
          have HA := Lib.hid hA
          have HOB := Lib.hid hobj
          have HDK := Lib.hid (HOK.out.obj s hs)
          have HRF := Lib.hid (HOK.out.refs s hs)
          have HPR : Hid (procK hp em K2 s = addsK hp (addsK hp K2 (refsM hp.slots[s].obj)) (em (handleM hp.base hp.stride (s : Nat)))) := Lib.hid (by
            unfold procK
            rw [List.getD_eq_getElem?_getD, List.getElem?_eq_getElem hs]
            rfl)
          have HIN : Hid (InI (handleM hp.base hp.stride (s : Nat))) := Lib.hid (by unfold InI; omega)
          clear hKi hus hso hA hptr hobj hel
          generalize hp.slots[s].obj = x at *
          clear hs
          generalize hhz : handleM hp.base hp.stride (s : Nat) = hz at *
          have HHZ := Lib.hid hhz
          clear hhz
          go_upto_region 11 with fail
          go_cut [51] from 11 to 81 (fun u51 wx => ∃ bt, u51 = .func (.func 39) #[] #[.pointer (some ⟨bt, 0, none⟩)] ∧ Hid (wx.heap[bt]? = some (.cells #[.pointer (some ⟨gh, oh + s * 11 + 1, none⟩)] 64 (0, 0)) ∧ w0.heap.size ≤ bt) ∧ Hid (LS w0 wx bx bm bh hp K2 F2 ds2))
          case first =>
            go_wp2_with (first
              | (go_at_call 24; refine HA.out.mono ?_; rintro e wa ⟨rfl, hca⟩; have HRE := Lib.hid (refs_any wa (some ⟨gh, oh + s * 11 + 1, none⟩)))
              | (go_at_call 23; refine HRE.out.mono ?_; rintro e wb ⟨rfl, rfl⟩))
            go_meet
            exact ⟨_, rfl, Lib.hid ⟨alloc_block _ _, Nat.le_trans HL.out.own.chg.size hca.size⟩, Lib.hid (HL.out.still (hca.allocR _))⟩
          case rest =>
          obtain ⟨bt, rfl, HBT, HL2⟩ := hcut
          clear HL cb m2 c0 h0 h1 hln2 HGL HA
          go_wp2_with fail
          refine (wpIn_wide (n := 9) (P := Tryd.prog)).1 (wpIn_rangeFunc_list (F := Fence.wide) (n := 9) rfl (by omega) (gf := 39) (lb := #[.pointer (some ⟨bt, 0, none⟩)]) rfl trivial (enters_of Tryd.func39 (by kernel_rfl) rfl) (encs := fun h : Int => #[.int .i64 h]) (xs := refsM x) ?seq (fun _ => rfl)
            (fun B1 pre W => LI w0 wc W bx bm bh hp (addsK hp K2 pre) ds2 B1) ?hI ?h0 (fun y => { tmps := #[.pointer (some ⟨bh, 0, none⟩), u1b, ve, u3b, u4b, u5b, u6b, .pointer (some ⟨bx, 0, none⟩), u8b, u9b, .int .i64 (p2 : Int), .int .i64 y, u12, u13, u14, u15, u16, u17, u18, u19, u20, u21, u22, u23, u24, u25, u26, u27, u28, u29, u30, u31, u32, u33, u34, u35, u36, u37, u38, u39, u40, u41, u42, u43, u44, u45, u46, u47, u48, u49, u50, .func (.func 39) #[] #[.pointer (some ⟨bt, 0, none⟩)], .int .i64 y, u53, u54, u55, u56, u57, u58, u59, u60, u61, u62, u63, u64, u65, u66, u67, u68, u69, u70, u71, u72, u73, u74, u75, u76, u77, u78, u79, u80, u81], defers := [] }) ?assign ?body ?done)
          case seq =>
            intro W hc
            exact refs1_seq _ W gh (oh + s * 11 + 1) bt x Go_ (HOB.out.still (HL2.out.own.chg.trans' hc)) (hc.keep HBT.out.1 (fun x => x)) HDK.out
          case hI =>
            intro B1 pre W l o o' hi hl ho hoc
            refine hi.putObj hl ho hoc fun d hd e => ?_
            have := HL2.out.defs.lt (D := l) (e ▸ hd)
            omega
          case h0 =>
            intro W hc
            exact LI.start HL2.out hc
          case assign =>
            intro l y W K hK
            have hsem := @Oper.semAt_some
            gi_wp2
            exact hK
          case body =>
            rintro l B1 pre y W hB hi hpre
            obtain ⟨F3, hls, hF3⟩ := hi.ex
            have cb := hls.cell
            have hy : InI y := HRF.out y (hpre.subset (by simp))
            have HAD := Lib.hid (madd_any w0 W bm bh hp Fh _ y HHH.out F3 hls.own hls.ok hy HOK.out.few)
            have HLS := Lib.hid hls
            have HIL := Lib.hid hi
            have HFB := Lib.hid hF3
            have h1n : 1 ≤ 9 - 1 - 1 := by omega
            clear hls hi hF3 hy hB
            have hsem := @Oper.semAt_some
            gi_wp2_with (first | (refine ⟨trivial, ?_⟩; gi_at_call 22; refine (CallsIn.inRound l (callsIn_wide.2 HAD.out)).mono ?_; rintro e wa ⟨rfl, F4, ho4, hk4, hs4, -⟩))
            rw [addsK_snoc]
            exact LI.step HLS.out HFB.out HIL.out.lo HIL.out.sz ho4 hk4 hs4
          case done =>
            intro D B1 W hD hi hk
            obtain ⟨F3, hls, -⟩ := hi.ex
            have HL3 : Hid (LS w0 W bx bm bh hp (addsK hp K2 (refsM x)) F3 (markD D :: ds2)) := Lib.hid ⟨hls.own, hls.ok, hls.box, hls.bxF, hls.lo, hls.defs.push (Nat.le_trans HL2.out.own.chg.size hD) hk (fun d hd e => by
              have := HL2.out.defs.lt (D := D) (e ▸ hd)
              omega)⟩
            have cb := hls.cell
            have HKL := Lib.hid (prefix_get (addsK_prefix hp (refsM x) K2) HKS.out)
            clear hls hi hk hD HL2 HBT HOB
            dsimp only
            rw [show ({ target := .collected D, args := #[] } : Deferred) = markD D from rfl]
            generalize addsK hp K2 (refsM x) = K3 at *
            rcases HEE.out with ⟨rfl, hem⟩ | hff
            · have HP2 : Hid (procK hp em K2 s = K3) := Lib.hid (by rw [HPR.out, hem]; rfl)
              clear hem
              have hq1 := eqFn_nil
              go_wp2_with fail
              refine ⟨?_, ?measure⟩
              (repeat apply Exists.intro)
              refine ⟨?rel, rfl⟩
              case rel => exact ⟨HKL.out.1, HFF2.out, by rw [HP2.out] at HD; exact HD, HL3⟩
              case measure => have := HPN2.out; simp [intOf, w64]; omega
            · exact hff.elim
        · have hpe : p2 = K2.length := by omega
          have hDD : D1 = K2 := by rw [← HD.out, drainM_none (by omega)]
          have HHW := Lib.hid (weak_any w0 wr bm bh hp Fh K2 F2 HHH.out HL.out.own HL.out.ok HOK.out)
          have hnl : ¬ (p2 : Int) < (K2.length : Int) := by omega
          have HWS := Lib.hid (weakM_len hp K2)
          have HLE := Lib.hid (show p2 ≤ K2.length by omega)
          have HPE := Lib.hid hpe
          have HDE := Lib.hid hDD
          have HFT : Hid (hp.slots.length - p2 ≤ f) := Lib.hid (by have := HD1L.out; rw [hDD] at this; have := HFF.out; omega)
          clear hel hlt hpl hf hDD hpe
          go_wp2_with (first | (go_at_call 25; refine HHW.out.mono ?_; rintro e wa ⟨rfl, F6, ho6, hk6, hs6⟩))
          refine ⟨?_, ?measure⟩
          (repeat apply Exists.intro)
          refine ⟨?rel, rfl⟩
          case rel => exact ⟨by have := HWS.out; have := HPE.out; omega, HFT.out, by have h := HT; rw [HDE.out, ← HPE.out] at h; exact h, Lib.hid (HL.out.step ho6 hk6 hs6)⟩
          case measure =>
            have hx := HD1L.out
            have hy := HPN.out
            rw [HDE.out, ← HPE.out] at hx
            simp [intOf]
            omega
      · have hKT : K = T := by rw [← HT.out, liveM_done (by omega)]
        have hnl : ¬ (p : Int) < (K.length : Int) := by omega
        have HKT := Lib.hid hKT
        clear hKT hlt hpl hf
        have HM2 := Lib.hid m2
        go_wp2_with fail
        obtain ⟨Ds, rfl, hnd, hd⟩ := HL.out.defs.ex
        rw [bodyM_eq]
        refine leaves_marks Ds w0 wr hnd hd (fun W' hc => ?_)
        refine ⟨_, results_tmp rfl _ _ _, _, rfl, ?_⟩
        rw [HTE.out, ← HKT.out]
        exact HL.out.out HM2.out hd hc
end Go.Proofs.YthiiehanlconeaaDoor
namespace Go.Proofs.YthiiehanlconeaaDoor
open Go.RowKit
set_option linter.unusedVariables false
set_option linter.unusedSimpArgs false

set_option maxHeartbeats 3200000 in
set_option maxRecDepth 100000 in
theorem make_any (w : World) (b : Nat) (hp : Hp) (F : List Nat) (k : Nat) (H : Here hpR w b 0 hp F) (hfree : hp.free = []) (hlive : hp.live = hp.slots.length) (hl : hp.slots.length < 100000) (hp12 : hp.protos.length = 12) (hk : k < 12) :
    Calls Tryd.prog 7 #[.pointer (some ⟨b, 0, none⟩), .int .i64 (k : Int)] w
      fun e w' => e = .returned (.tuple #[.int .i64 (handleM hp.base hp.stride hp.slots.length), .int .i64 0]) ∧ Added w b 0 (addedM hp ⟨true, newObj k (hp.protos.getD k 0)⟩) F w' := by
  have HL := Lib.hid (len_any w b 0 hp F H)
  obtain ⟨g, off, cap, c7, hset⟩ := protoSet H (by omega)
  obtain ⟨q1, -, -⟩ := hset k (by omega)
  have hgd : hp.protos.getD k 0 = hp.protos[k]'(by omega) := by rw [List.getD_eq_getElem?_getD, List.getElem?_eq_getElem (by omega)]; rfl
  rw [← hgd] at q1
  rw [hp12, Nat.zero_add] at c7
  generalize hp.protos.getD k 0 = pr at *
  have h0 : (0 : Int) ≤ (k : Int) := by omega
  have h1 : (k : Int) < 12 := by omega
  have h2 : ¬ ((12 : Int) ≤ (k : Int)) := by omega
  have h3 : ¬ (100000 : Int) ≤ hp.live := by omega
  have C7 := Lib.hid c7
  have Q1 := Lib.hid q1
  have HH := Lib.hid H
  have HFR := Lib.hid hfree
  have HLV := Lib.hid hlive
  have HSL := Lib.hid hl
  clear hset hgd H hfree hlive hl hp12 hk
  go_enter Tryd.func7, Tryd.ntmps7
  go_upto_region 5 with (go_at_call 17; refine HL.out.mono ?_; rintro e w2 ⟨rfl, rfl⟩)
  have hc := Chg.alloc (fun _ => False) w2 (.cells #[.int .i64 (k : Int), .int .i64 0, .slice none 0 0, .slice none 0 0, .slice none 0 0, .int .i64 0, .int .i64 0, .int .i64 0, .int .i64 0, .slice none 0 0] 61)
  have d7 := hc.cell C7.out
  have d1 := hc.cell Q1.out
  clear c7 q1
  go_upto_region 8 with fail
  have hb : (w2.alloc (.cells #[.int .i64 (k : Int), .int .i64 pr, .slice none 0 0, .slice none 0 0, .slice none 0 0, .int .i64 0, .int .i64 0, .int .i64 0, .int .i64 0, .slice none 0 0] 61)).heap[w2.heap.size]? = some (.cells #[.int .i64 (k : Int), .int .i64 pr, .slice none 0 0, .slice none 0 0, .slice none 0 0, .int .i64 0, .int .i64 0, .int .i64 0, .int .i64 0, .slice none 0 0] 61 (0, 0)) := alloc_block _ _
  have hcW : Chg (fun _ => False) w2 (w2.alloc (.cells #[.int .i64 (k : Int), .int .i64 pr, .slice none 0 0, .slice none 0 0, .slice none 0 0, .int .i64 0, .int .i64 0, .int .i64 0, .int .i64 0, .slice none 0 0] 61)) := Chg.alloc _ _ _
  have HCW := Lib.hid hcW
  clear hc d7 d1 hcW
  generalize w2.alloc (.cells #[.int .i64 (k : Int), .int .i64 pr, .slice none 0 0, .slice none 0 0, .slice none 0 0, .int .i64 0, .int .i64 0, .int .i64 0, .int .i64 0, .slice none 0 0] 61) = W3 at *
  generalize w2.heap.size = nb at *
  have m0 : W3.cell? ⟨nb, 0, none⟩ = some (.int .i64 (k : Int)) := cell_of_block hb rfl
  have m1 : W3.cell? ⟨nb, 1, none⟩ = some (.int .i64 pr) := cell_of_block hb rfl
  have m2 : W3.cell? ⟨nb, 2, none⟩ = some (.slice none 0 0) := cell_of_block hb rfl
  have m3 : W3.cell? ⟨nb, 3, none⟩ = some (.slice none 0 0) := cell_of_block hb rfl
  have m4 : W3.cell? ⟨nb, 4, none⟩ = some (.slice none 0 0) := cell_of_block hb rfl
  have m5 : W3.cell? ⟨nb, 5, none⟩ = some (.int .i64 0) := cell_of_block hb rfl
  have m6 : W3.cell? ⟨nb, 6, none⟩ = some (.int .i64 0) := cell_of_block hb rfl
  have m7 : W3.cell? ⟨nb, 7, none⟩ = some (.int .i64 0) := cell_of_block hb rfl
  have m8 : W3.cell? ⟨nb, 8, none⟩ = some (.int .i64 0) := cell_of_block hb rfl
  have m9 : W3.cell? ⟨nb, 9, none⟩ = some (.slice none 0 0) := cell_of_block hb rfl
  have HC := Lib.hid (add_any W3.drew b 0 hp F k pr (HH.out.still (HCW.out.drewR)) HFR.out ⟨by have := HSL.out; omega⟩ HLV.out)
  clear hb
  go_region_law (go_simp; go_at_call 16; refine HC.out.mono ?_; rintro e w4 ⟨rfl, hA⟩)
  all_goals (
    go_wp2_with fail
    go_ret2
    exact ⟨rfl, ⟨Post.pre (HCW.out.drewR) hA.post, fun j u hj hu => hA.rest j u hj ((HCW.out.drewR).cell hu)⟩⟩)
end Go.Proofs.YthiiehanlconeaaDoor
