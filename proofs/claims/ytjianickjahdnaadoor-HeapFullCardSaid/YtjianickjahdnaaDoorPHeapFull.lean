/-
  HeapFull: the card.
-/
import Derived.Test.YtjianickjahdnaaDoorRows
import Derived.WalkKit
import Derived.ProofKit
import Derived.OpenShut
import Derived.ShutString
import Derived.ChangeOld
import Derived.Below
import Derived.Carry
import Derived.SizedLaws
import Derived.JoinedCond
import Derived.Deep.CondSized
import Derived.Test.YtjianickjahdnaaDoorPHeapFulla
import Derived.SliceStrings
import Derived.ChangeSlices
import Derived.Test.YtjianickjahdnaaDoorPHeapFullh
import Derived.MakeChecks
import Derived.Stop.LaidErr
import Derived.Lib.LaidTab
import Derived.Deep.DeepHandedRow
import Derived.SevenTiedAt
import Derived.Lay
import Derived.LaidMore
import Derived.Stop.Joined
import Derived.Test.YtjianickjahdnaaDoorCards
import Derived.Test.YtjianickjahdnaaDoorTie
namespace Go.Proofs.YtjianickjahdnaaDoor
set_option linter.unusedVariables false
open Go.ChangeShapes Go.WideShapes Go.ChangeAt Go.RowKit

theorem Tryd.own : ownKnob Tryd.prog.godebug = none := by kernel_rfl
theorem Tryd.laidOut : laidOutB Tryd.prog = true := by kernel_rfl
/-- Each type can be read and is a row of the table. -/
def rowed (P : Program) (ts : List TypeId) : Bool := ts.all fun t => P.readableRec t && decide (t < P.types.size)

theorem trodAll_below {H : Type} {enc : TypeId × Value → H} {P : Program} (hl : laidOutB P = true) {W W' : World} (hb : Below W.heap.size W W') :
    ∀ {ts : List TypeId} {vs : List Value} {ds : List (DataW H)} {ps : List MemPlace}, rowed P ts = true → DataW.TrodAll enc P W 0 (fun _ => true) true ts vs ds ps → (∀ x ∈ ps, x.block < W.heap.size) →
      DataW.TrodAll enc P W' 0 (fun b => decide (b < W.heap.size)) true ts vs ds ps
  | [], [], [], _, _, h, _ => h
  | t :: ts, v :: vs, d :: ds, ps, hr, ⟨p, q, h1, h2, e⟩, hlt => by
    simp only [rowed, List.all_cons, Bool.and_eq_true, decide_eq_true_eq] at hr
    exact ⟨p, q, Below.trod hl hr.1.1 hr.1.2 h1 hb (fun x hx => hlt x (by rw [e]; exact List.mem_append_left _ hx)),
      trodAll_below hl hb (by simpa [rowed] using hr.2) h2 (fun x hx => hlt x (by rw [e]; exact List.mem_append_right _ hx)), e⟩
  | [], [], _ :: _, _, _, h, _ => h.elim
  | [], _ :: _, _, _, _, h, _ => h.elim
  | _ :: _, [], _, _, _, h, _ => h.elim
  | _ :: _, _ :: _, [], _, _, h, _ => h.elim

theorem law_post {P : Program} {H : Type} {enc : TypeId × Value → H} {f : Func} {s : ChangeSpec} {W W' : World} {args : Array Value} {ds gs : List (DataW H)} {before : List MemPlace} {tb : TypeId}
    (hl : laidOutB P = true) (hts : rowed P f.params.toList = true) (hres : f.resultTypes = #[tb]) (hbool : P.underlying tb = some .bool) (hvars : s.vars = [])
    (hW : DataW.Whole enc P f.params.toList s.vars false W args.toList ds gs before) (hfn : s.fn H (ds ++ gs) = { results := [.lit (.bool true)], args := ds })
    (hb : Below W.heap.size W W') : s.post enc P f false true false false W args (.bool true) W' := by
  have hW' := hW
  have hlt : ∀ x ∈ before, x.block < W.heap.size := fun x hx => hW.lt x hx
  obtain ⟨p, q, hA, hV, rfl, hfz, hnd⟩ := hW
  refine ⟨ds, gs, p ++ q, [], p, [], hW', ?_, ?_, ?_, hb.frame _, fun h => by cases h⟩
  · rw [hfn, hres]; exact trodAll_mk1 (shut_bool hbool _)
  · rw [hfn]; exact trodAll_below hl hb hts hA (fun x hx => hlt x (List.mem_append_left _ hx))
  · rw [hfn, hvars]; rfl

/-- A law's contract lifted to its row. -/
theorem law_lift {C : Checked} {os : Os} {f : FuncId} {fn : Func} {s : ChangeSpec} {H : Type} {enc : TypeId × Value → H} {tb : TypeId} (started : os.Started)
    (own : ownKnob C.prog.godebug = none) (hl : laidOutB C.prog = true) (noInit : C.prog.inits.idxOf? f = none) (hfn : C.prog.funcs[f]? = some fn) (hts : rowed C.prog fn.params.toList = true) (hres : fn.resultTypes = #[tb]) (hbool : C.prog.underlying tb = some .bool) (hvars : s.vars = [])
    (hargs : ∀ ds : List (DataW H), ds.length = fn.params.toList.length → s.fn H ds = { results := [.lit (.bool true)], args := ds })
    (witness : ∃ (w : World) (tape : Tape) (i : Input), w.os = os ∧ (w.forCall tape i).Shaped C.prog ∧ i.vars = [] ∧ Input.okWide C.prog (w.forCall tape i) .any w.heap.size f i ∧
      s.pre6 enc C.prog fn [] false (w.forCall tape i).memory i.args ∧ Assume.holds {} C.prog (lone (Frame.enter C.prog f i.args .normal) [] (w.forCall tape i)))
    (core : ∀ (W : World) (base : Nat) (vs : List Value) (ds : List (DataW H)) (ps : List MemPlace), (∀ (j : Nat) t v, fn.params.toList[j]? = some t → vs[j]? = some v → Value.okWide C.prog W .any base t v) →
      DataW.TrodAll enc C.prog W 0 (fun _ => true) true fn.params.toList vs ds ps → (DataW.weightsEach C.prog fn.params.toList ds).all (· ≤ reachBytes) = true →
      Calls C.prog f vs.toArray W fun e W' => e = .returned (.bool true) ∧ Below W.heap.size W W') :
    ReturnsInHanded {} C os f .any (s.pre6 enc C.prog fn [] false) (s.post enc C.prog fn false true false false) := by
  refine returnsInHanded_of_change_sized (C := C) own started noInit hfn witness ?_
  intro W base args ds gs before hval hW _ hsz _
  have hW' := hW
  obtain ⟨p, q, hA, hV, rfl, hfz, hnd⟩ := hW
  rw [hvars] at hV
  obtain ⟨rfl, rfl⟩ := trodVars_none hV
  simp only [List.append_nil] at hsz
  have hlen : ds.length = fn.params.toList.length := by
    have : ∀ (ts : List TypeId) (vs : List Value) (ds : List (DataW H)) (ps : List MemPlace), DataW.TrodAll enc C.prog W 0 (fun _ => true) true ts vs ds ps → ds.length = ts.length := by
      intro ts
      induction ts with
      | nil => intro vs ds ps h; cases vs <;> cases ds <;> first | rfl | exact h.elim
      | cons t ts ih => intro vs ds ps h; cases vs <;> cases ds <;> first | exact h.elim | (obtain ⟨_, _, _, h2, _⟩ := h; simp [ih _ _ _ h2])
    exact this _ _ _ _ hA
  have hvt : s.plain.varTypes C.prog = [] := by simp [DataSpec.varTypes, ChangeSpec.plain, hvars]
  rw [hvt, List.append_nil] at hsz
  have := core W base args.toList ds p (fun j t v h1 h2 => hval j t v (by simpa using h1) (by simpa using h2)) hA hsz
  rw [Array.toArray_toList] at this
  refine this.mono fun e W' ⟨he, hb⟩ => ⟨_, he, law_post hl hts hres hbool hvars hW' (by rw [List.append_nil]; exact hargs ds hlen) hb⟩

/-- A law's contract lifted to its second row (bulk at most 1048576). -/
theorem law_lift_upto {C : Checked} {os : Os} {f : FuncId} {fn : Func} {s : ChangeSpec} {H : Type} {enc : TypeId × Value → H} {tb : TypeId} {F : Stop.Interp} (started : os.Started)
    (own : ownKnob C.prog.godebug = none) (hl : laidOutB C.prog = true) (noInit : C.prog.inits.idxOf? f = none) (hfn : C.prog.funcs[f]? = some fn) (hts : rowed C.prog fn.params.toList = true) (hres : fn.resultTypes = #[tb]) (hbool : C.prog.underlying tb = some .bool) (hvars : s.vars = [])
    (hargs : ∀ ds : List (DataW H), ds.length = fn.params.toList.length → s.fn H ds = { results := [.lit (.bool true)], args := ds })
    (witness : ∃ (w : World) (tape : Tape) (i : Input), w.os = os ∧ (w.forCall tape i).Shaped C.prog ∧ i.vars = [] ∧ Input.okWide C.prog (w.forCall tape i) .any w.heap.size f i ∧
      (Rows.OpenSpec.upto s).pre6 enc C.prog fn [] false (w.forCall tape i).memory i.args ∧ Assume.holds {} C.prog (lone (Frame.enter C.prog f i.args .normal) [] (w.forCall tape i)))
    (core : ∀ (W : World) (base : Nat) (vs : List Value) (ds : List (DataW H)) (ps : List MemPlace), (∀ (j : Nat) t v, fn.params.toList[j]? = some t → vs[j]? = some v → Value.okWide C.prog W .any base t v) →
      DataW.TrodAll enc C.prog W 0 (fun _ => true) true fn.params.toList vs ds ps → Rows.uptoBulkAll ds ≤ 1048576 →
      Calls C.prog f vs.toArray W fun e W' => e = .returned (.bool true) ∧ Below W.heap.size W W') :
    ReturnsInHanded {} C os f .any ((Rows.OpenSpec.upto s).pre6 enc C.prog fn [] false) (((Rows.OpenSpec.upto s).at F).post enc C.prog fn false true false false) := by
  refine returnsInHanded_of_cond (C := C) (s := Rows.OpenSpec.upto s) (k := Rows.uptoSmall) rfl own started noInit hfn witness ?_
  intro W base args ds gs before hval hW _ hk _
  have hW' : DataW.Whole enc C.prog fn.params.toList s.vars false W args.toList ds gs before := hW
  obtain ⟨p, q, hA, hV, rfl, hfz, hnd⟩ := hW'
  have hV' : DataW.TrodVars enc C.prog W (fun _ => true) s.vars gs q := hV
  rw [hvars] at hV'
  obtain ⟨rfl, rfl⟩ := trodVars_none hV'
  simp only [List.append_nil] at hk
  have hlen : ds.length = fn.params.toList.length := by
    have : ∀ (ts : List TypeId) (vs : List Value) (ds : List (DataW H)) (ps : List MemPlace), DataW.TrodAll enc C.prog W 0 (fun _ => true) true ts vs ds ps → ds.length = ts.length := by
      intro ts
      induction ts with
      | nil => intro vs ds ps h; cases vs <;> cases ds <;> first | rfl | exact h.elim
      | cons t ts ih => intro vs ds ps h; cases vs <;> cases ds <;> first | exact h.elim | (obtain ⟨_, _, _, h2, _⟩ := h; simp [ih _ _ _ h2])
    exact this _ _ _ _ hA
  have := core W base args.toList ds p (fun j t v h1 h2 => hval j t v (by simpa using h1) (by simpa using h2)) hA (of_decide_eq_true hk)
  rw [Array.toArray_toList] at this
  refine this.mono fun e W' ⟨he, hb⟩ => ⟨_, he, ?_⟩
  exact (law_post (s := s) hl hts hres hbool hvars hW (by rw [List.append_nil]; exact hargs ds hlen) hb)
end Go.Proofs.YtjianickjahdnaaDoor
namespace Go.Proofs.YtjianickjahdnaaDoor
open Go.ChangeShapes Go.WideShapes Go.ChangeAt Go.RowKit
set_option linter.unusedVariables false

/-- A slice that came in: its elements (one cell each) are xs. -/
def ArgRow (w : World) (v : Value) (xs : List Value) : Prop :=
  ∃ a cap, v = .slice a xs.length cap ∧ xs.length ≤ cap ∧ cap ≤ maxLen ∧ (xs ≠ [] → ∃ g off, a = some ⟨g, off, none⟩ ∧ g < w.heap.size ∧ ∀ j u, xs[j]? = some u → w.cell? ⟨g, off + j, none⟩ = some u)
theorem int_of_wf {k : IntKind} {n : Int} (h : (Lit.int k n).wf = true) : k.min ≤ n ∧ n ≤ k.max := by simpa [Lit.wf] using h

section
variable {H : Type} {enc : TypeId × Value → H} {P : Program} {w : World} {base : Nat}
theorem addr_none {w : World} {a : Addr} {v : Value} (h : w.cell? (a.add 0) = some v) : ∃ g off, a = ⟨g, off, none⟩ := by
  obtain ⟨g, off, spot⟩ := a
  have hs : spot = none := by simpa [Addr.add] using World.cell?_spot h
  exact ⟨g, off, by rw [hs]⟩
theorem add_none (g off j : Nat) : (⟨g, off, none⟩ : Addr).add j = ⟨g, off + j, none⟩ := by unfold Addr.add; split <;> simp_all
theorem argRow_of {a : Addr} {len cap : Nat} (xs : List Value) (hl : len ≤ cap) (hc : cap ≤ maxLen) (hx : cap ≤ xs.length) (h : ∀ i u, xs[i]? = some u → w.cell? (a.add i) = some u) : ArgRow w (.slice (some a) len cap) (xs.take len) := by
  have hlen : (xs.take len).length = len := by simp; omega
  refine ⟨some a, cap, by rw [hlen], by omega, hc, fun hne => ?_⟩
  have h0 : 0 < len := by
    apply Nat.pos_of_ne_zero
    rintro rfl
    simp at hne
  have h1 : 0 < xs.length := by omega
  obtain ⟨g, off, rfl⟩ := addr_none (h 0 xs[0] (List.getElem?_eq_getElem h1))
  refine ⟨g, off, rfl, ?_, ?_⟩
  · have := World.block_lt_of_cell? w _ (h 0 xs[0] (List.getElem?_eq_getElem h1))
    simpa [add_none] using this
  · intro j u hu
    rw [List.getElem?_take] at hu
    split at hu
    · have := h j u hu
      rwa [add_none] at this
    · cases hu
theorem open_intRow {k : IntKind} {t e : TypeId} {v : Value} {d : DataW H} {ps : List MemPlace} (ht : P.underlying t = some (.slice e)) (he : P.underlying e = some (.int k)) (hc : P.cellsOf e = 1)
    (hv : Value.okWide P w .any base t v) (h : DataW.Trod enc P w 0 (fun _ => true) true t v d ps) :
    ∃ zs : List Int, ArgRow w v (zs.map (Value.int k)) ∧ (∀ z ∈ zs, k.min ≤ z ∧ z ≤ k.max) ∧ (d = .nil ∧ zs = [] ∨ ∃ rest, d = .slice (lits k zs) rest) := by
  obtain ⟨a, len, cap, rfl⟩ := okWide_slice ht hv
  obtain ⟨fuel, hf⟩ := h
  rcases open_ints ht he hc hf with ⟨hcs, hd⟩ | ⟨x, l, c, zs, hcs, _, hl, hm, hz, hd, hcell, hwz⟩
  · simp [Value.cells] at hcs
    obtain ⟨rfl, rfl, rfl⟩ := hcs
    exact ⟨[], ⟨none, 0, rfl, Nat.le_refl _, by simp, fun h => absurd rfl h⟩, by simp, .inl ⟨(Prod.mk.inj hd).1, rfl⟩⟩
  · simp [Value.cells] at hcs
    obtain ⟨rfl, rfl, rfl⟩ := hcs
    simp at hz
    refine ⟨zs.take len, ?_, fun z hz => int_of_wf (hwz z (List.mem_of_mem_take hz)), .inr ⟨_, (Prod.mk.inj hd).1⟩⟩
    rw [List.map_take]
    refine argRow_of _ hl hm (by simp; omega) ?_
    intro i u hu
    have hi : i < zs.length := by
      have := (List.getElem?_eq_some_iff.1 hu).1
      simpa using this
    rw [hcell i hi]
    simp [List.getElem?_eq_getElem hi] at hu
    simp [List.getD, hi, hu]
theorem open_strRow {t e : TypeId} {v : Value} {d : DataW H} {ps : List MemPlace} (ht : P.underlying t = some (.slice e)) (he : P.underlying e = some .string) (hc : P.cellsOf e = 1)
    (hv : Value.okWide P w .any base t v) (h : DataW.Trod enc P w 0 (fun _ => true) true t v d ps) :
    ∃ ss : List ByteArray, ArgRow w v (ss.map Value.string) ∧ (∀ z ∈ ss, z.size ≤ maxLen) ∧ (d = .nil ∧ ss = [] ∨ ∃ rest, d = .slice (strs ss) rest) := by
  obtain ⟨a, len, cap, rfl⟩ := okWide_slice ht hv
  obtain ⟨fuel, hf⟩ := h
  rcases open_strings ht he hc hf with ⟨hcs, hd⟩ | ⟨x, l, c, zs, hcs, _, hl, hm, hz, hd, hcell, hwz⟩
  · simp [Value.cells] at hcs
    obtain ⟨rfl, rfl, rfl⟩ := hcs
    exact ⟨[], ⟨none, 0, rfl, Nat.le_refl _, by simp, fun h => absurd rfl h⟩, by simp, .inl ⟨(Prod.mk.inj hd).1, rfl⟩⟩
  · simp [Value.cells] at hcs
    obtain ⟨rfl, rfl, rfl⟩ := hcs
    simp at hz
    refine ⟨zs.take len, ?_, fun z hz => hwz z (List.mem_of_mem_take hz), .inr ⟨_, (Prod.mk.inj hd).1⟩⟩
    rw [List.map_take]
    refine argRow_of _ hl hm (by simp; omega) ?_
    intro i u hu
    have hi : i < zs.length := by
      have := (List.getElem?_eq_some_iff.1 hu).1
      simpa using this
    rw [hcell i hi]
    simp [List.getElem?_eq_getElem hi] at hu
    simp [List.getD, hi, hu]
theorem open_array2 {k : IntKind} {t e : TypeId} {v : Value} {d : DataW H} {ps : List MemPlace} (ht : P.underlying t = some (.array 2 e)) (he : P.underlying e = some (.int k)) (hc : P.cellsOf e = 1) (hct : P.cellsOf t = 2)
    (hv : Value.okWide P w .any base t v) (h : DataW.Trod enc P w 0 (fun _ => true) true t v d ps) :
    ∃ x y : Int, v = .agg #[.int k x, .int k y] ∧ (k.min ≤ x ∧ x ≤ k.max) ∧ (k.min ≤ y ∧ y ≤ k.max) := by
  simp only [Value.okWide, ht] at hv
  obtain ⟨cs, rfl, hsz, _⟩ := hv
  rw [hct] at hsz
  obtain ⟨c0, c1, rfl⟩ : ∃ c0 c1, cs = #[c0, c1] := by
    obtain ⟨l⟩ := cs
    match l, hsz with
    | [c0, c1], _ => exact ⟨c0, c1, rfl⟩
  obtain ⟨fuel, hf⟩ := h
  obtain ⟨xs, m, _, _, _, hxl, hx⟩ := DataW.trod_array ht hf
  have h0 := hx 0 (by omega)
  have h1 := hx 1 (by omega)
  rw [hc, List.getElem?_eq_getElem (by omega)] at h0 h1
  simp [Value.cells] at h0 h1
  obtain ⟨n0, e0, _, w0⟩ := DataW.trod_int he h0
  obtain ⟨n1, e1, _, w1⟩ := DataW.trod_int he h1
  simp at e0 e1
  subst e0 e1
  exact ⟨n0, n1, rfl, int_of_wf w0, int_of_wf w1⟩
end
section
variable {w w' : World} {v : Value} {xs : List Value}
theorem ArgRow.keep (h : ArgRow w v xs) (hc : Chg (fun _ => False) w w') : ArgRow w' v xs := by
  obtain ⟨a, cap, rfl, h1, h2, h3⟩ := h
  refine ⟨a, cap, rfl, h1, h2, fun hne => ?_⟩
  obtain ⟨g, off, rfl, hg, hcell⟩ := h3 hne
  exact ⟨g, off, rfl, Nat.lt_of_lt_of_le hg hc.size, fun j u hu => hc.cell (hcell j u hu)⟩
end
theorem argCell {w w' : World} {a : Option Addr} {n cap : Nat} {xs : List Value} (h : ArgRow w (.slice a n cap) xs) (hc : Chg (fun _ => False) w w') {k : Nat} {u : Value} (hu : xs[k]? = some u) :
    ∃ g off, a = some ⟨g, off, none⟩ ∧ w'.cell? ⟨g, off + k, none⟩ = some u := by
  obtain ⟨a', cap', hv, h1, h2, h3⟩ := h
  cases hv
  have hne : xs ≠ [] := by rintro rfl; simp at hu
  obtain ⟨g, off, rfl, hg, hcell⟩ := h3 hne
  exact ⟨g, off, rfl, hc.cell (hcell k u hu)⟩
end Go.Proofs.YtjianickjahdnaaDoor
namespace Go.Proofs.YtjianickjahdnaaDoor
open Go.ChangeShapes Go.WideShapes Go.ChangeAt Go.RowKit
set_option linter.unusedVariables false

section
variable {H : Type} {enc : TypeId × Value → H} {P : Program} {w : World} {base : Nat} {sp : Nat → Bool} {held : Bool} {x : List Value} {y : DataW H × List MemPlace} {fuel o : Nat} {t : TypeId}
theorem one_get {v : Value} (h : (x.drop o).take 1 = [v]) : x[o]? = some v := by
  have h2 := congrArg (fun l => l[0]?) h
  simpa [List.getElem?_take, List.getElem?_drop] using h2
theorem cell_int {k : IntKind} (ht : P.underlying t = some (.int k)) (hc : P.cellsOf t = 1) (h : DataW.trod enc P w 0 sp held fuel t ((x.drop o).take (P.cellsOf t)) = some y) : ∃ n, x[o]? = some (.int k n) ∧ (k.min ≤ n ∧ n ≤ k.max) := by
  obtain ⟨n, h1, _, h2⟩ := DataW.trod_int ht h
  rw [hc] at h1
  exact ⟨n, one_get h1, int_of_wf h2⟩
theorem cell_string (ht : P.underlying t = some .string) (hc : P.cellsOf t = 1) (h : DataW.trod enc P w 0 sp held fuel t ((x.drop o).take (P.cellsOf t)) = some y) : ∃ s : ByteArray, x[o]? = some (.string s) ∧ s.size ≤ maxLen := by
  obtain ⟨s, h1, _, h2⟩ := DataW.trod_string ht h
  rw [hc] at h1
  exact ⟨s, one_get h1, h2⟩
/-- A struct that came in, cell by cell. -/
theorem open_struct {fs : Array Field} {v : Value} {d : DataW H} {ps : List MemPlace} (ht : P.underlying t = some (.struct fs)) (hv : Value.okWide P w .any base t v) (h : DataW.Trod enc P w 0 sp held t v d ps) :
    ∃ cs : Array Value, v = .agg cs ∧ cs.toList.length = P.cellsOf t ∧ ∀ (i : Nat) (f : Field), fs[i]? = some f → ∃ fuel y, DataW.trod enc P w 0 sp held fuel f.type ((cs.toList.drop f.offset).take (P.cellsOf f.type)) = some y := by
  simp only [Value.okWide, ht] at hv
  obtain ⟨cs, rfl, hsz, _⟩ := hv
  obtain ⟨n, hf⟩ := h
  obtain ⟨xs, m, _, _, _, hxl, hx⟩ := DataW.trod_struct ht hf
  refine ⟨cs, rfl, by simpa using hsz, fun i f hif => ?_⟩
  have hi : i < xs.length := by rw [hxl]; exact (Array.getElem?_eq_some_iff.1 hif).1
  exact ⟨m, xs[i], by rw [← List.getElem?_eq_getElem hi]; exact hx i f hif⟩
end
theorem list8 {x : List Value} {a b c d e f g h : Value} (hl : x.length = 8) (h0 : x[0]? = some a) (h1 : x[1]? = some b) (h2 : x[2]? = some c) (h3 : x[3]? = some d) (h4 : x[4]? = some e) (h5 : x[5]? = some f) (h6 : x[6]? = some g) (h7 : x[7]? = some h) : x = [a, b, c, d, e, f, g, h] := by
  match x, hl with
  | [_, _, _, _, _, _, _, _], _ => simp_all
end Go.Proofs.YtjianickjahdnaaDoor
namespace Go.Proofs.YtjianickjahdnaaDoor
open Go.ChangeShapes Go.WideShapes Go.ChangeAt Go.RowKit
set_option linter.unusedVariables false

/-- A slice that came in: its elements (n cells each) are xs. -/
def ArgRows (w : World) (v : Value) (n : Nat) (xs : List (List Value)) : Prop :=
  ∃ a cap, v = .slice a xs.length cap ∧ xs.length ≤ cap ∧ cap ≤ maxLen ∧ (xs ≠ [] → ∃ g off, a = some ⟨g, off, none⟩ ∧ ∀ (j i : Nat) (x : List Value) (u : Value), xs[j]? = some x → x[i]? = some u → w.cell? ⟨g, off + j * n + i, none⟩ = some u)
theorem ArgRows.keep {w w' : World} {v : Value} {n : Nat} {xs : List (List Value)} (h : ArgRows w v n xs) (hc : Chg (fun _ => False) w w') : ArgRows w' v n xs := by
  obtain ⟨a, cap, rfl, h1, h2, h3⟩ := h
  refine ⟨a, cap, rfl, h1, h2, fun hne => ?_⟩
  obtain ⟨g, off, rfl, hcell⟩ := h3 hne
  exact ⟨g, off, rfl, fun j i x u hx hu => hc.cell (hcell j i x u hx hu)⟩
section
variable {H : Type} {enc : TypeId × Value → H} {P : Program} {w : World} {base : Nat}
theorem open_rows {t e : TypeId} {fs : Array Field} {v : Value} {d : DataW H} {ps : List MemPlace} (ht : P.underlying t = some (.slice e)) (he : P.underlying e = some (.struct fs)) (hn : 0 < P.cellsOf e)
    (hv : Value.okWide P w .any base t v) (h : DataW.Trod enc P w 0 (fun _ => true) true t v d ps) :
    ∃ xs : List (List Value), ArgRows w v (P.cellsOf e) xs ∧ ∀ x ∈ xs, x.length = P.cellsOf e ∧ ∀ (i : Nat) (f : Field), fs[i]? = some f → ∃ fuel y, DataW.trod enc P w 0 (fun _ => true) true fuel f.type ((x.drop f.offset).take (P.cellsOf f.type)) = some y := by
  obtain ⟨a, len, cap, rfl⟩ := okWide_slice ht hv
  obtain ⟨fuel, hf⟩ := h
  rcases DataW.trod_slice ht hf with ⟨hcs, -⟩ | ⟨ad, len', cap', elems, rest, n, -, hcs, -, -, hl, hm, hlen, hel, -, -⟩
  · simp [Value.cells] at hcs
    obtain ⟨rfl, rfl, rfl⟩ := hcs
    exact ⟨[], ⟨none, 0, rfl, Nat.le_refl _, by simp, fun h => absurd rfl h⟩, by simp⟩
  · simp [Value.cells] at hcs
    obtain ⟨rfl, rfl, rfl⟩ := hcs
    have each : ∀ i, i < len → ∃ cs, w.cells? 0 (ad.add (i * P.cellsOf e)) (P.cellsOf e) = some cs ∧ ∃ y, DataW.trod enc P w 0 (fun _ => true) true n e cs = some y := by
      intro i hi
      have h1 := hel i hi
      rw [List.getElem?_eq_getElem (by omega), Option.bind_eq_some_iff] at h1
      obtain ⟨cs, h2, h3⟩ := h1
      exact ⟨cs, h2, _, h3⟩
    let f : Nat → List Value := fun i => (w.cells? 0 (ad.add (i * P.cellsOf e)) (P.cellsOf e)).getD []
    refine ⟨(List.range len).map f, ⟨some ad, cap, by simp, by simpa using hl, hm, fun hne => ?_⟩, fun x hx => ?_⟩
    · have h0 : 0 < len := by
        apply Nat.pos_of_ne_zero
        rintro rfl
        simp at hne
      obtain ⟨cs0, hc0, -⟩ := each 0 h0
      obtain ⟨-, hl0, hg0⟩ := World.cells?_some hc0
      have h1 := hg0 0 hn
      rw [List.getElem?_eq_getElem (by omega), Nat.zero_mul] at h1
      obtain ⟨g, off, hh⟩ := addr_none h1
      have hadd0 : ad.add 0 = ad := by obtain ⟨b', o', s'⟩ := ad; unfold Addr.add; split <;> simp_all
      rw [hadd0] at hh
      subst hh
      refine ⟨g, off, rfl, fun j i x u hj hi => ?_⟩
      rw [List.getElem?_map] at hj
      obtain ⟨k, hk, rfl⟩ := Option.map_eq_some_iff.1 hj
      obtain ⟨hk1, hk2⟩ := List.getElem?_eq_some_iff.1 hk
      rw [List.length_range] at hk1
      rw [List.getElem_range] at hk2
      subst hk2
      obtain ⟨cs, hc, -⟩ := each j hk1
      have hfx : f j = cs := by show (w.cells? 0 _ _).getD [] = cs; rw [hc]; rfl
      rw [hfx] at hi
      obtain ⟨-, hl', hg'⟩ := World.cells?_some hc
      have hi' : i < P.cellsOf e := by rw [← hl']; exact (List.getElem?_eq_some_iff.1 hi).1
      have h2 := hg' i hi'
      rw [hi, add_none, add_none] at h2
      exact h2
    · obtain ⟨i, hi, rfl⟩ := List.mem_map.1 hx
      rw [List.mem_range] at hi
      obtain ⟨cs, hc, y, hy⟩ := each i hi
      have hfx : f i = cs := by show (w.cells? 0 _ _).getD [] = cs; rw [hc]; rfl
      rw [hfx]
      obtain ⟨-, hl', -⟩ := World.cells?_some hc
      obtain ⟨ys, m, _, _, _, hxl, hx'⟩ := DataW.trod_struct he hy
      refine ⟨hl', fun k fd hk => ?_⟩
      have hki : k < ys.length := by rw [hxl]; exact (Array.getElem?_eq_some_iff.1 hk).1
      exact ⟨m, ys[k], by rw [← List.getElem?_eq_getElem hki]; exact hx' k fd hk⟩
end
end Go.Proofs.YtjianickjahdnaaDoor
namespace Go.Proofs.YtjianickjahdnaaDoor
open Go.RowKit
set_option linter.unusedVariables false
set_option linter.unusedSimpArgs false

/-- The heap with i objects. -/
structure FH (hp : Hp) (i : Nat) : Prop where
  len : hp.slots.length = i
  free : hp.free = []
  live : hp.live = (i : Int)
  prot : hp.protos.length = 12
theorem FH.begin : FH (newM 0 0) 12 := ⟨rfl, rfl, rfl, rfl⟩
theorem FH.add {hp : Hp} {i : Nat} (h : FH hp i) (s : Slt) : FH (addedM hp s) (i + 1) :=
  ⟨by show (hp.slots ++ [s]).length = i + 1; rw [List.length_append, h.len]; rfl, h.free, by show hp.live + 1 = _; rw [h.live]; omega, h.prot⟩
theorem cat_eq (n : ByteArray) : (n ++ (⟨#[58, 32]⟩ : ByteArray)) ++ (⟨#[109]⟩ : ByteArray) = n ++ (⟨#[58, 32, 109]⟩ : ByteArray) := by
  rw [ByteArray.append_assoc]
  congr 1
set_option maxHeartbeats 12800000 in
set_option maxRecDepth 100000 in
theorem heapFull_long (nb : Nat) (s : ByteArray) (w : World) (HT : Tabs w) (hb : nb < 256) (hs : s.size ≤ 9223372036854775807) (hl : 20 < s.size) :
    Calls Tryd.prog 3 #[.int .u8 (nb : Int), .string s] w fun e w' => e = .returned (.bool true) ∧ Below w.heap.size w w' := by
  have HAW := Lib.hid (fun W (hc : Chg (fun _ => False) w W) => awake_heap W (HT.still hc))
  have HC0 := Lib.hid (Chg.refl (fun _ => False) w)
  have l1 : (20 : Int) < (s.size : Int) := by omega
  clear hl
  clear HT hb hs
  go_enter Tryd.func3, Tryd.ntmps3
  go_wp2_with (go_at_call 9; refine (HAW.out _ HC0.out).mono ?_; rintro e w0 ⟨rfl, hc0⟩; have HC0 := Lib.hid (HC0.out.trans' hc0); clear hc0)
  go_ret
  exact ⟨rfl, HC0.out.below (Nat.le_refl _) (fun _ x => x.elim)⟩
set_option maxHeartbeats 12800000 in
set_option maxRecDepth 100000 in
theorem heapFull_kind (nb : Nat) (s : ByteArray) (w : World) (HT : Tabs w) (hb : nb < 256) (hs : s.size ≤ 9223372036854775807) (hl : ¬ 20 < s.size) (h0 : 0 < nb) (h8 : nb % 8 ≠ 1) :
    Calls Tryd.prog 3 #[.int .u8 (nb : Int), .string s] w fun e w' => e = .returned (.bool true) ∧ Below w.heap.size w w' := by
  have HAW := Lib.hid (fun W (hc : Chg (fun _ => False) w W) => awake_heap W (HT.still hc))
  have HC0 := Lib.hid (Chg.refl (fun _ => False) w)
  have l1 : ¬ (20 : Int) < (s.size : Int) := by omega
  have z0 : (0 : Int) < (nb : Int) := by omega
  obtain ⟨r, hre, hr⟩ : ∃ r, r = nb % 8 ∧ r < 8 := ⟨_, rfl, Nat.mod_lt _ (by omega)⟩
  have t1 : ((nb : Int)).tmod 8 = (r : Int) := by rw [hre, Int.tmod_eq_emod_of_nonneg (by omega)]; rfl
  have t3 : ((nb : Int)) % 8 = (r : Int) := by rw [hre]; rfl
  have u1 : IntKind.u8.wrap (r : Int) = (r : Int) := IntWalk.u8_in _ (by omega)
  have ne : (r : Int) ≠ 1 := by omega
  have ne2 : ((r : Int) != 1) = true := by simpa using ne
  clear hl h0 h8 hre hr
  clear HT hb hs
  go_enter Tryd.func3, Tryd.ntmps3
  go_wp2_with (go_at_call 9; refine (HAW.out _ HC0.out).mono ?_; rintro e w0 ⟨rfl, hc0⟩; have HC0 := Lib.hid (HC0.out.trans' hc0); clear hc0)
  go_ret
  exact ⟨rfl, HC0.out.below (Nat.le_refl _) (fun _ x => x.elim)⟩
set_option maxHeartbeats 12800000 in
set_option maxRecDepth 100000 in
theorem heapFull_zero (nb : Nat) (s : ByteArray) (w : World) (HT : Tabs w) (HU : Lib.Utf8Tabs 0 1 w) (hb : nb < 256) (hl : ¬ 20 < s.size) (h0 : nb = 0) :
    Calls Tryd.prog 3 #[.int .u8 (nb : Int), .string s] w fun e w' => e = .returned (.bool true) ∧ Below w.heap.size w w' := by
  have HAW := Lib.hid (awake_heap w HT)
  have HNW := Lib.hid (fun W => new_any 0 0 W)
  have HUU := Lib.hid HU
  have l1 : ¬ (20 : Int) < (s.size : Int) := by omega
  obtain ⟨k, hke, hk⟩ : ∃ k, k = nb % 12 ∧ k < 12 := ⟨_, rfl, Nat.mod_lt _ (by omega)⟩
  have tk1 : ((nb : Int)).tmod 12 = (k : Int) := by rw [hke, Int.tmod_eq_emod_of_nonneg (by omega)]; rfl
  have tk3 : ((nb : Int)) % 12 = (k : Int) := by rw [hke]; rfl
  have uk1 : IntKind.u8.wrap (k : Int) = (k : Int) := IntWalk.u8_in _ (by omega)
  have uk2 : IntKind.i64.wrap (k : Int) = (k : Int) := IntWalk.i64_in _ (by omega)
  have uk3 : wrap64 (k : Int) = (k : Int) := IntWalk.wrap64_in _ (by omega)
  have HK := Lib.hid hk
  have HSL := Lib.hid hl
  have z0 : ¬ (0 : Int) < (nb : Int) := by omega
  clear h0
  clear hl HT HU hb hke hk
  go_enter Tryd.func3, Tryd.ntmps3
  go_upto_region 4 with (first
    | (go_at_call 9; refine HAW.out.mono ?_; rintro e w0 ⟨rfl, hc0⟩)
    | (go_at_call 10; refine (HNW.out _).mono ?_; rintro e w1 ⟨cs, F, rfl, hown, hnd, hlo, hch⟩; have hown' := hown; obtain ⟨v1, v2, v3, F1, F2, F3, rfl, o1, o2, o3, -⟩ := hown'; obtain ⟨x1, y1, p1⟩ := Rep.opened o1; obtain ⟨n1, m1, rfl, -⟩ := p1.val; obtain ⟨x2, y2, p2⟩ := Rep.opened o2; obtain ⟨n2, m2, rfl, -⟩ := p2.val; obtain ⟨x3, y3, p3⟩ := Rep.opened o3; obtain ⟨n3, m3, rfl, -⟩ := p3.val; clear o1 o2 o3 p1 p2 p3))
  have hch' := hc0.trans' hch
  have HO := Lib.hid (show Own hpR w (w1.alloc (.cells _ 30)) w1.heap.size 0 (newM 0 0) F from ⟨Here.made w1 30 _ (newM 0 0) F hown hnd, hch'.allocR _, hch'.size, fun k hk => by have := hlo k hk; have := hc0.size; omega⟩)
  clear HNW HAW hown hnd hlo hch hch' hc0
  generalize w1.alloc (.cells #[.int .i64 (newM 0 0).base, .int .i64 (newM 0 0).stride, .slice n1 (newM 0 0).slots.length m1, .slice n2 (newM 0 0).free.length m2, .int .i64 (newM 0 0).live, .int .i64 (newM 0 0).global, .int .i64 (newM 0 0).texts, .slice n3 (newM 0 0).protos.length m3] 30) = W2 at *
  generalize w1.heap.size = bh at *
  have HFB := Lib.hid FH.begin
  generalize newM 0 0 = hp0 at *
  go_wp2_with fail
  go_loopw [6, 7, 8] (fun u6 _ _ wr => ∃ (i : Nat) (hp : Hp) (F : List Nat), Hid (i ≤ 100000) ∧ u6 = .int .i64 i ∧ Hid (FH hp i) ∧ Hid (Own hpR w wr bh 0 hp F)) (fun u6 _ _ _ => 100000 - (intOf u6).toNat)
  case atStart => exact ⟨12, hp0, F, Lib.hid (of_decide_eq_true rfl), rfl, HFB, HO⟩
  case round =>
    clear HFB HO
    obtain ⟨i, hp, F, HI, rfl, HF, HO⟩ := hrel
    by_cases hlt : (i : Int) < 100000
    · have HLT : Hid (i < 100000) := Lib.hid (by omega)
      have w64 : IntKind.i64.wrap ((i : Int) + 1) = ((i + 1 : Nat) : Int) := IntWalk.i64_in _ (by omega)
      have HMK := Lib.hid (make_any wr bh hp F k HO.out.here HF.out.free (by rw [HF.out.live, HF.out.len]) (by rw [HF.out.len]; exact HLT.out) HF.out.prot HK.out)
      generalize handleM hp.base hp.stride hp.slots.length = hh at *
      go_upto_region 8 with (go_at_call 11; refine HMK.out.mono ?_; rintro e Wm ⟨rfl, hA⟩)
      obtain ⟨Fm, hom⟩ := hA.post.own HO.out
      have HOM := Lib.hid hom
      have HFN := Lib.hid (HF.out.add ⟨true, newObj (k : Int) (hp.protos.getD k 0)⟩)
      clear hA hom HMK HO HF
      go_wp2_with fail
      go_roundw
      case rel => exact ⟨i + 1, _, Fm, Lib.hid HLT.out, rfl, HFN, HOM⟩
      case measure => have := HLT.out; simp [intOf, w64]; omega
    · have hi2 : i = 100000 := by have := HI.out; omega
      have HLV : Hid (hp.live = 100000) := Lib.hid (by rw [HF.out.live, hi2]; rfl)
      have HMF := Lib.hid (make_full wr bh hp F k HO.out.here HLV.out HK.out)
      have hsz := HSL.out
      have HFA := Lib.hid (fault_full wr bh hp F s ⟨#[109]⟩ HO.out.here HLV.out (by omega) (of_decide_eq_true rfl) (utf8_still HUU.out HO.out.chg))
      rw [cat_eq] at HFA
      have HTX := Lib.hid (fun W (hc : Chg (fun _ => False) w W) => text_any (s ++ ⟨#[58, 32, 109]⟩) W (by rw [ByteArray.size_append, show (⟨#[58, 32, 109]⟩ : ByteArray).size = 3 from rfl]; omega) (utf8_still HUU.out hc))
      have k1 : ¬ 9223372036854775807 < s.size + 3 := by omega
      generalize repairM (s ++ ⟨#[58, 32, 109]⟩) = t at *
      clear hi2 hsz
      go_upto_region 11 with (go_at_call 11; refine HMF.out.mono ?_; rintro e Wm ⟨rfl, rfl⟩)
      clear HMF
      go_wp2_with (first
        | (go_at_call 12; refine HFA.out.mono ?_; rintro e wf ⟨rfl, hcf⟩; have HCF := Lib.hid (HO.out.chg.trans' hcf); clear hcf)
        | (go_at_call 13; refine (HTX.out _ HCF.out).mono ?_; rintro e wt ⟨rfl, hct⟩))
      have HCT := Lib.hid (HCF.out.trans' hct)
      go_ret
      exact ⟨by simp, HCT.out.below (Nat.le_refl _) (fun _ x => x.elim)⟩
set_option maxHeartbeats 12800000 in
set_option maxRecDepth 100000 in
theorem heapFull_one (nb : Nat) (s : ByteArray) (w : World) (HT : Tabs w) (HU : Lib.Utf8Tabs 0 1 w) (hb : nb < 256) (hl : ¬ 20 < s.size) (h0 : 0 < nb) (h8 : nb % 8 = 1) :
    Calls Tryd.prog 3 #[.int .u8 (nb : Int), .string s] w fun e w' => e = .returned (.bool true) ∧ Below w.heap.size w w' := by
  have HAW := Lib.hid (awake_heap w HT)
  have HNW := Lib.hid (fun W => new_any 0 0 W)
  have HUU := Lib.hid HU
  have l1 : ¬ (20 : Int) < (s.size : Int) := by omega
  obtain ⟨k, hke, hk⟩ : ∃ k, k = nb % 12 ∧ k < 12 := ⟨_, rfl, Nat.mod_lt _ (by omega)⟩
  have tk1 : ((nb : Int)).tmod 12 = (k : Int) := by rw [hke, Int.tmod_eq_emod_of_nonneg (by omega)]; rfl
  have tk3 : ((nb : Int)) % 12 = (k : Int) := by rw [hke]; rfl
  have uk1 : IntKind.u8.wrap (k : Int) = (k : Int) := IntWalk.u8_in _ (by omega)
  have uk2 : IntKind.i64.wrap (k : Int) = (k : Int) := IntWalk.i64_in _ (by omega)
  have uk3 : wrap64 (k : Int) = (k : Int) := IntWalk.wrap64_in _ (by omega)
  have HK := Lib.hid hk
  have HSL := Lib.hid hl
  have z0 : (0 : Int) < (nb : Int) := by omega
  have t1 : ((nb : Int)).tmod 8 = 1 := by rw [Int.tmod_eq_emod_of_nonneg (by omega)]; omega
  have t3 : ((nb : Int)) % 8 = 1 := by omega
  clear h0 h8
  clear hl HT HU hb hke hk
  go_enter Tryd.func3, Tryd.ntmps3
  go_upto_region 4 with (first
    | (go_at_call 9; refine HAW.out.mono ?_; rintro e w0 ⟨rfl, hc0⟩)
    | (go_at_call 10; refine (HNW.out _).mono ?_; rintro e w1 ⟨cs, F, rfl, hown, hnd, hlo, hch⟩; have hown' := hown; obtain ⟨v1, v2, v3, F1, F2, F3, rfl, o1, o2, o3, -⟩ := hown'; obtain ⟨x1, y1, p1⟩ := Rep.opened o1; obtain ⟨n1, m1, rfl, -⟩ := p1.val; obtain ⟨x2, y2, p2⟩ := Rep.opened o2; obtain ⟨n2, m2, rfl, -⟩ := p2.val; obtain ⟨x3, y3, p3⟩ := Rep.opened o3; obtain ⟨n3, m3, rfl, -⟩ := p3.val; clear o1 o2 o3 p1 p2 p3))
  have hch' := hc0.trans' hch
  have HO := Lib.hid (show Own hpR w (w1.alloc (.cells _ 30)) w1.heap.size 0 (newM 0 0) F from ⟨Here.made w1 30 _ (newM 0 0) F hown hnd, hch'.allocR _, hch'.size, fun k hk => by have := hlo k hk; have := hc0.size; omega⟩)
  clear HNW HAW hown hnd hlo hch hch' hc0
  generalize w1.alloc (.cells #[.int .i64 (newM 0 0).base, .int .i64 (newM 0 0).stride, .slice n1 (newM 0 0).slots.length m1, .slice n2 (newM 0 0).free.length m2, .int .i64 (newM 0 0).live, .int .i64 (newM 0 0).global, .int .i64 (newM 0 0).texts, .slice n3 (newM 0 0).protos.length m3] 30) = W2 at *
  generalize w1.heap.size = bh at *
  have HFB := Lib.hid FH.begin
  generalize newM 0 0 = hp0 at *
  go_wp2_with fail
  go_loopw [6, 7, 8] (fun u6 _ _ wr => ∃ (i : Nat) (hp : Hp) (F : List Nat), Hid (i ≤ 100000) ∧ u6 = .int .i64 i ∧ Hid (FH hp i) ∧ Hid (Own hpR w wr bh 0 hp F)) (fun u6 _ _ _ => 100000 - (intOf u6).toNat)
  case atStart => exact ⟨12, hp0, F, Lib.hid (of_decide_eq_true rfl), rfl, HFB, HO⟩
  case round =>
    clear HFB HO
    obtain ⟨i, hp, F, HI, rfl, HF, HO⟩ := hrel
    by_cases hlt : (i : Int) < 100000
    · have HLT : Hid (i < 100000) := Lib.hid (by omega)
      have w64 : IntKind.i64.wrap ((i : Int) + 1) = ((i + 1 : Nat) : Int) := IntWalk.i64_in _ (by omega)
      have HMK := Lib.hid (make_any wr bh hp F k HO.out.here HF.out.free (by rw [HF.out.live, HF.out.len]) (by rw [HF.out.len]; exact HLT.out) HF.out.prot HK.out)
      generalize handleM hp.base hp.stride hp.slots.length = hh at *
      go_upto_region 8 with (go_at_call 11; refine HMK.out.mono ?_; rintro e Wm ⟨rfl, hA⟩)
      obtain ⟨Fm, hom⟩ := hA.post.own HO.out
      have HOM := Lib.hid hom
      have HFN := Lib.hid (HF.out.add ⟨true, newObj (k : Int) (hp.protos.getD k 0)⟩)
      clear hA hom HMK HO HF
      go_wp2_with fail
      go_roundw
      case rel => exact ⟨i + 1, _, Fm, Lib.hid HLT.out, rfl, HFN, HOM⟩
      case measure => have := HLT.out; simp [intOf, w64]; omega
    · have hi2 : i = 100000 := by have := HI.out; omega
      have HLV : Hid (hp.live = 100000) := Lib.hid (by rw [HF.out.live, hi2]; rfl)
      have HMF := Lib.hid (make_full wr bh hp F k HO.out.here HLV.out HK.out)
      have hsz := HSL.out
      have HFA := Lib.hid (fault_full wr bh hp F s ⟨#[109]⟩ HO.out.here HLV.out (by omega) (of_decide_eq_true rfl) (utf8_still HUU.out HO.out.chg))
      rw [cat_eq] at HFA
      have HTX := Lib.hid (fun W (hc : Chg (fun _ => False) w W) => text_any (s ++ ⟨#[58, 32, 109]⟩) W (by rw [ByteArray.size_append, show (⟨#[58, 32, 109]⟩ : ByteArray).size = 3 from rfl]; omega) (utf8_still HUU.out hc))
      have k1 : ¬ 9223372036854775807 < s.size + 3 := by omega
      generalize repairM (s ++ ⟨#[58, 32, 109]⟩) = t at *
      clear hi2 hsz
      go_upto_region 11 with (go_at_call 11; refine HMF.out.mono ?_; rintro e Wm ⟨rfl, rfl⟩)
      clear HMF
      go_wp2_with (first
        | (go_at_call 12; refine HFA.out.mono ?_; rintro e wf ⟨rfl, hcf⟩; have HCF := Lib.hid (HO.out.chg.trans' hcf); clear hcf)
        | (go_at_call 13; refine (HTX.out _ HCF.out).mono ?_; rintro e wt ⟨rfl, hct⟩))
      have HCT := Lib.hid (HCF.out.trans' hct)
      go_ret
      exact ⟨by simp, HCT.out.below (Nat.le_refl _) (fun _ x => x.elim)⟩
theorem heapFull_core (k : Int) (s : ByteArray) (w : World) (hb : (Lit.int .u8 k).wf = true) (hs : s.size ≤ maxLen) (HT : Tabs w) (HU : Lib.Utf8Tabs 0 1 w) :
    Calls Tryd.prog 3 #[.int .u8 k, .string s] w fun e w' => e = .returned (.bool true) ∧ Below w.heap.size w w' := by
  have q1 : IntKind.u8.min = 0 := by decide
  have q2 : IntKind.u8.max = 255 := by decide
  have hw := int_of_wf hb
  rw [q1, q2] at hw
  obtain ⟨n, rfl, hn⟩ : ∃ n : Nat, k = (n : Int) ∧ n < 256 := ⟨k.toNat, by omega, by omega⟩
  unfold maxLen at hs
  by_cases hl : 20 < s.size
  · exact heapFull_long n s w HT hn (by omega) hl
  · rcases Nat.eq_zero_or_pos n with h0 | h0
    · exact heapFull_zero n s w HT HU hn hl h0
    · by_cases h8 : n % 8 = 1
      · exact heapFull_one n s w HT HU hn hl h0 h8
      · exact heapFull_kind n s w HT hn (by omega) hl h0 h8
end Go.Proofs.YtjianickjahdnaaDoor
namespace Go.Proofs.YtjianickjahdnaaDoor
open Go.RowKit Go.ChangeShapes
set_option linter.unusedVariables false
set_option linter.unusedSimpArgs false

theorem starE : "*" ++ "errors.errorString" = "*errors.errorString" := by decide
theorem rowE (u : TypeId) (h : Tryd.prog.typeName? 3 u = some "*errors.errorString") : u = 146 :=
  typeName_ptr_named (nm := "errors.errorString") (by rw [starE]; kernel_rfl) (by kernel_rfl) (by decide) u (by rw [starE]; exact h)
theorem pow_datum : (Rows.laid_internal_strconv_uint64pow10 : DataW Unit) = Lib.tabData .u64 Lib.pow10Tab := by kernel_rfl
set_option maxRecDepth 100000 in
theorem tabs_of_laid {W : World} (h : laidMetH Tryd.prog Rows.heapBeginsRow.laid W) : Tabs W := by
  rw [MakeChecks.laidMetH_plain _ _ _ (by kernel_rfl)] at h
  have h1 : laidMet Tryd.prog (("internal/strconv.uint64pow10", Rows.laid_internal_strconv_uint64pow10) :: _) W := h.tail.tail
  rw [pow_datum] at h1
  obtain ⟨a1, t1, hv1, -⟩ := laid_sentinel (g := (Tryd.prog.globalNamed "strconv.ErrRange").getD 0) h1.tail.tail (by kernel_rfl) (by kernel_rfl) Tryd.underlying97 rowE Tryd.underlying146 Tryd.underlying148 rfl rfl Tryd.underlying9 (by kernel_rfl) (by kernel_rfl)
  obtain ⟨a0, t0, hv0, -⟩ := laid_sentinel (g := (Tryd.prog.globalNamed "strconv.ErrSyntax").getD 0) h1.tail.tail.tail (by kernel_rfl) (by kernel_rfl) Tryd.underlying97 rowE Tryd.underlying146 Tryd.underlying148 rfl rfl Tryd.underlying9 (by kernel_rfl) (by kernel_rfl)
  exact ⟨Lib.tabIs_of_head (g := (Tryd.prog.globalNamed "internal/strconv.uint64pow10").getD 0) (by kernel_rfl) (by kernel_rfl) Tryd.underlying138 Tryd.underlying108 (by kernel_rfl) (by kernel_rfl) h1, ⟨_, _, hv0⟩, ⟨_, _, hv1⟩⟩
end Go.Proofs.YtjianickjahdnaaDoor
namespace Go.Proofs.YtjianickjahdnaaDoor
set_option linter.unusedVariables false
open Go.ChangeShapes Go.WideShapes Go.ChangeAt Go.RowKit

theorem trod_lengths {P : Program} {H : Type} {enc : TypeId × Value → H} {W : World} : ∀ (ts : List TypeId) (vs : List Value) (ds : List (DataW H)) (ps : List MemPlace), DataW.TrodAll enc P W 0 (fun _ => true) true ts vs ds ps → ds.length = ts.length := by
  intro ts
  induction ts with
  | nil => intro vs ds ps h; cases vs <;> cases ds <;> first | rfl | exact h.elim
  | cons t ts ih => intro vs ds ps h; cases vs <;> cases ds <;> first | exact h.elim | (obtain ⟨_, _, _, h2, _⟩ := h; simp [ih _ _ _ h2])

/-- A law's contract lifted to its row, over listed variables. -/
theorem law_liftD {C : Checked} {os : Os} {f : FuncId} {fn : Func} {s : ChangeSpec} {H : Type} {enc : TypeId × Value → H} {tb : TypeId} {F : Stop.Interp} {laid : List (String × DataW Unit)} (started : os.Started)
    (own : ownKnob C.prog.godebug = none) (hl : laidOutB C.prog = true) (noInit : C.prog.inits.idxOf? f = none) (hfn : C.prog.funcs[f]? = some fn) (hts : rowed C.prog fn.params.toList = true) (hres : fn.resultTypes = #[tb]) (hbool : C.prog.underlying tb = some .bool) (hvars : s.vars = [])
    (hargs : ∀ ds : List (DataW H), ds.length = fn.params.toList.length → s.fn H ds = { results := [.lit (.bool true)], args := ds })
    (witness : ∃ (w : World) (tape : Tape) (i : Input), w.os = os ∧ (w.forCall tape i).Shaped C.prog ∧ i.vars = [] ∧ Input.okWide C.prog (w.forCall tape i) .any w.heap.size f i ∧
      (OpenSpec.ofChange s).preRow enc C.prog fn [] false laid (w.forCall tape i).memory i.args ∧ Assume.holds {} C.prog (lone (Frame.enter C.prog f i.args .normal) [] (w.forCall tape i)))
    (core : ∀ (W : World) (base : Nat) (vs : List Value) (ds : List (DataW H)) (ps : List MemPlace), (∀ (j : Nat) t v, fn.params.toList[j]? = some t → vs[j]? = some v → Value.okWide C.prog W .any base t v) →
      DataW.TrodAll enc C.prog W 0 (fun _ => true) true fn.params.toList vs ds ps → (DataW.weightsEach C.prog fn.params.toList ds).all (· ≤ reachBytes) = true → laidMetH C.prog laid W →
      Calls C.prog f vs.toArray W fun e W' => e = .returned (.bool true) ∧ Below W.heap.size W W') :
    ReturnsInHanded {} C os f .any ((OpenSpec.ofChange s).preRow enc C.prog fn [] false laid) (((OpenSpec.ofChange s).at F).post enc C.prog fn false true false false) := by
  refine returnsInHanded_of_row (C := C) (s := OpenSpec.ofChange s) own started noInit hfn witness ?_
  intro W base args ds gs before hval hW _ _ hsz hL _ _
  have hW' : DataW.Whole enc C.prog fn.params.toList s.vars false W args.toList ds gs before := hW
  obtain ⟨p, q, hA, hV, rfl, hfz, hnd⟩ := hW'
  have hV' : DataW.TrodVars enc C.prog W (fun _ => true) s.vars gs q := hV
  rw [hvars] at hV'
  obtain ⟨rfl, rfl⟩ := trodVars_none hV'
  simp only [List.append_nil] at hsz
  have hlen : ds.length = fn.params.toList.length := trod_lengths _ _ _ _ hA
  have hvt : (OpenSpec.ofChange s).bare.plain.varTypes C.prog = [] := by simp [OpenSpec.ofChange, OpenSpec.bare, DataSpec.varTypes, ChangeSpec.plain, hvars]
  rw [hvt, List.append_nil] at hsz
  have := core W base args.toList ds p (fun j t v h1 h2 => hval j t v (by simpa using h1) (by simpa using h2)) hA hsz hL
  rw [Array.toArray_toList] at this
  refine this.mono fun e W' ⟨he, hb⟩ => ⟨_, he, ?_⟩
  exact (law_post (s := s) hl hts hres hbool hvars hW (by rw [List.append_nil]; exact hargs ds hlen) hb)

/-- The same for the second row (bulk at most 1048576). -/
theorem law_liftD_upto {C : Checked} {os : Os} {f : FuncId} {fn : Func} {s : ChangeSpec} {H : Type} {enc : TypeId × Value → H} {tb : TypeId} {F : Stop.Interp} {laid : List (String × DataW Unit)} (started : os.Started)
    (own : ownKnob C.prog.godebug = none) (hl : laidOutB C.prog = true) (noInit : C.prog.inits.idxOf? f = none) (hfn : C.prog.funcs[f]? = some fn) (hts : rowed C.prog fn.params.toList = true) (hres : fn.resultTypes = #[tb]) (hbool : C.prog.underlying tb = some .bool) (hvars : s.vars = [])
    (hargs : ∀ ds : List (DataW H), ds.length = fn.params.toList.length → s.fn H ds = { results := [.lit (.bool true)], args := ds })
    (witness : ∃ (w : World) (tape : Tape) (i : Input), w.os = os ∧ (w.forCall tape i).Shaped C.prog ∧ i.vars = [] ∧ Input.okWide C.prog (w.forCall tape i) .any w.heap.size f i ∧
      (Rows.OpenSpec.upto s).preRow enc C.prog fn [] false laid (w.forCall tape i).memory i.args ∧ Assume.holds {} C.prog (lone (Frame.enter C.prog f i.args .normal) [] (w.forCall tape i)))
    (core : ∀ (W : World) (base : Nat) (vs : List Value) (ds : List (DataW H)) (ps : List MemPlace), (∀ (j : Nat) t v, fn.params.toList[j]? = some t → vs[j]? = some v → Value.okWide C.prog W .any base t v) →
      DataW.TrodAll enc C.prog W 0 (fun _ => true) true fn.params.toList vs ds ps → Rows.uptoBulkAll ds ≤ 1048576 → laidMetH C.prog laid W →
      Calls C.prog f vs.toArray W fun e W' => e = .returned (.bool true) ∧ Below W.heap.size W W') :
    ReturnsInHanded {} C os f .any ((Rows.OpenSpec.upto s).preRow enc C.prog fn [] false laid) (((Rows.OpenSpec.upto s).at F).post enc C.prog fn false true false false) := by
  refine returnsInHanded_of_row (C := C) (s := Rows.OpenSpec.upto s) own started noInit hfn witness ?_
  intro W base args ds gs before hval hW _ hk _ hL _ _
  have hW' : DataW.Whole enc C.prog fn.params.toList s.vars false W args.toList ds gs before := hW
  obtain ⟨p, q, hA, hV, rfl, hfz, hnd⟩ := hW'
  have hV' : DataW.TrodVars enc C.prog W (fun _ => true) s.vars gs q := hV
  rw [hvars] at hV'
  obtain ⟨rfl, rfl⟩ := trodVars_none hV'
  have hk2 := hk Rows.uptoSmall rfl
  simp only [List.append_nil] at hk2
  have hlen : ds.length = fn.params.toList.length := trod_lengths _ _ _ _ hA
  have := core W base args.toList ds p (fun j t v h1 h2 => hval j t v (by simpa using h1) (by simpa using h2)) hA (of_decide_eq_true hk2) hL
  rw [Array.toArray_toList] at this
  refine this.mono fun e W' ⟨he, hb⟩ => ⟨_, he, ?_⟩
  exact (law_post (s := s) hl hts hres hbool hvars hW (by rw [List.append_nil]; exact hargs ds hlen) hb)
end Go.Proofs.YtjianickjahdnaaDoor
namespace Go.Proofs.YtjianickjahdnaaDoor
open Go.RowKit Go.ChangeShapes Go.WideShapes Go.ChangeAt
open Go.ChangeMaps (open_string shut_string)
set_option linter.unusedVariables false
set_option linter.unusedSimpArgs false

set_option maxRecDepth 100000 in
theorem heapFull_laid (os : Os) : laidMetH Tryd.prog Rows.heapFullRow.laid ((World.laidAll Tryd.prog os Rows.heapFullRow.laid).forCall (fun _ _ => 0) ⟨#[], #[.int .u8 0, .string ByteArray.empty], []⟩).memory := by
  rw [MakeChecks.laidMetH_plain _ _ _ (by kernel_rfl)]
  exact laidMet_laidAll _ (by kernel_rfl) (by kernel_rfl)
set_option maxRecDepth 100000 in
theorem heapFull_lifted (os : Os) (started : os.Started) (H : Type) (enc : TypeId × Value → H) (F : Stop.Interp) :
    ReturnsInHanded {} Tryd.checked os 3 .any ((OpenSpec.ofChange Rows.heapFullSpec).preRow enc Tryd.prog Tryd.f3 [] false Rows.heapFullRow.laid) (((OpenSpec.ofChange Rows.heapFullSpec).at F).post enc Tryd.prog Tryd.f3 false true false false) := by
  obtain ⟨places, hx⟩ : ∃ places, DataW.whole enc Tryd.prog ((World.laidAll Tryd.prog os Rows.heapFullRow.laid).forCall (fun _ _ => 0) ⟨#[], #[.int .u8 0, .string ByteArray.empty], []⟩).memory Tryd.f3.params.toList [] false (#[.int .u8 0, .string ByteArray.empty] : Array Value).toList 8 = some ([.lit (.int .u8 0), .lit (.string [])], [], places) := ⟨[], by kernel_rfl⟩
  refine law_liftD (C := Tryd.checked) (s := Rows.heapFullSpec) (tb := 4) started Tryd.own Tryd.laidOut (by kernel_rfl) Tryd.func3 (by kernel_rfl) rfl Tryd.underlying4 rfl ?_
    (witness_row_at (enc := enc) (C := Tryd.checked) false (World.laidAll Tryd.prog os Rows.heapFullRow.laid) #[.int .u8 0, .string ByteArray.empty] (World.laidAll_os _ _ _) (by kernel_rfl) (by kernel_rfl) (by kernel_rfl)
      (OpenSpec.preRow_of_cond 8 hx (by kernel_rfl) (fun k hk => by cases hk) (by kernel_rfl) (heapFull_laid os))) ?_
  · intro ds h
    match ds, h with
    | [_, _], _ => rfl
  · intro W base vs ds ps hval hA hsz hL
    have hp : Tryd.f3.params.toList = [5, 9] := by rw [Tryd.params3]
    rw [hp] at hval hA hsz
    obtain ⟨v0, vs0, d0, ds0, p0, q0, rfl, rfl, rfl, h0, r0⟩ := trodAll_cons hA
    obtain ⟨v1, vs1, d1, ds1, p1, q1, rfl, rfl, rfl, h1, r1⟩ := trodAll_cons r0
    obtain ⟨rfl, rfl, rfl⟩ := trodAll_nil r1
    obtain ⟨a0, rfl, rfl, rfl, w0⟩ := open_int Tryd.underlying5 (hval 0 5 v0 rfl rfl) h0
    obtain ⟨a1, rfl, rfl, rfl, w1⟩ := open_string Tryd.underlying9 (hval 1 9 v1 rfl rfl) h1
    have l1 : a1.size ≤ 140737488351232 := by have := sized_string hsz (j := 1) (t := 9) rfl rfl; simpa [reachBytes] using this
    exact heapFull_core a0 a1 W w0 (by unfold maxLen; omega) (tabs_of_laid hL) (utf8_of_laid hL)

theorem heapFull_said : Rows.HeapFullSaid :=
  OpenClaim.holds_of_cond 3 Tryd.f3 rfl rfl rfl rfl rfl rfl rfl ⟨rfl, rfl, rfl, rfl, rfl⟩ rfl rfl rfl rfl rfl (by kernel_rfl) Tryd.func3 (by kernel_rfl)
    (of_decide_eq_true (by kernel_rfl)) (by unfold Func.isWrapper; first | (rw [if_pos (by decide +kernel)]; kernel_rfl) | (rw [if_neg (by decide +kernel)]; exact ⟨rfl, rfl⟩))
    (fun os started H enc _ F => by rw [OpenClaim.pre_eq_preRow]; exact heapFull_lifted os started H enc F)
theorem heapFull_plain (f : FuncId) (fn : Func) (hf : Tryd.pinned.checked.prog.funcNamed "knapsack/knapsacklaw31.HeapFull" = some f) (hfn : Tryd.pinned.checked.prog.funcs[f]? = some fn) :
    true = Tryd.pinned.checked.prog.looks [] ∧ ∀ (j : Nat) t, fn.params[j]? = some t → Tryd.pinned.checked.prog.wantsStandIn t = false := by
  obtain rfl : f = 3 := Option.some.inj ((show Tryd.prog.funcNamed "knapsack/knapsacklaw31.HeapFull" = some 3 by kernel_rfl).symm.trans hf) |>.symm
  obtain rfl : fn = Tryd.f3 := (Option.some.inj (Tryd.func3.symm.trans hfn)).symm
  refine ⟨by kernel_rfl, fun j t ht => ?_⟩
  rw [Tryd.params3] at ht
  have hm : t ∈ [5, 9] := by simpa using Array.mem_of_getElem? ht
  have hall : ([5, 9].all fun u => !Tryd.prog.wantsStandIn u) = true := by kernel_rfl
  exact (show Tryd.prog.wantsStandIn t = false by simpa using List.all_eq_true.1 hall t hm)
/-- The tied card. -/
theorem heapFull_holds : Rows.HeapFullCardSaid :=
  Claim7.holds_tied_plain_at .later [] _ _ _ _ heapFull_said (fun _ h => by cases h) (by kernel_rfl) (fun _ h => by cases h) heapFull_row_tie rfl ⟨rfl, rfl⟩ (by kernel_rfl) rfl heapFull_plain (by kernel_rfl)
#print axioms heapFull_holds
end Go.Proofs.YtjianickjahdnaaDoor
