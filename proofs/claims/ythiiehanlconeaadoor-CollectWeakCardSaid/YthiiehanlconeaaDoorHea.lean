/-
  A heap of objects as it lies in memory.
-/
import Derived.Test.YthiiehanlconeaaDoorHoldd
namespace Go.Proofs.YthiiehanlconeaaDoor
open Go.RowKit
set_option linter.unusedVariables false
set_option linter.unusedSimpArgs false

structure Val where
  kind : Int
  int : Int
  str : ByteArray
  ref : Int
def Val.cells (s : Val) : List Value := [.int .i64 s.kind, .int .i64 s.int, .string s.str, .int .i64 s.ref]
theorem Val.len (s : Val) : s.cells.length = 4 := rfl
def valR : Rep Val := Rep.flat 4 Val.cells Val.len
theorem valR_kind : FieldOf valR (Rep.int .i64) 0 (·.kind) (fun s y => { s with kind := y }) := by
  refine ⟨by show 0 + 1 ≤ 4; omega, ?_⟩
  rintro w cs s F ⟨rfl, rfl⟩
  exact ⟨[], [], [], rfl, ⟨rfl, rfl⟩, fun w2 ys y G hk hy => by obtain ⟨rfl, rfl⟩ := hy; exact ⟨rfl, rfl⟩⟩
theorem valR_int : FieldOf valR (Rep.int .i64) 1 (·.int) (fun s y => { s with int := y }) := by
  refine ⟨by show 1 + 1 ≤ 4; omega, ?_⟩
  rintro w cs s F ⟨rfl, rfl⟩
  exact ⟨[], [], [], rfl, ⟨rfl, rfl⟩, fun w2 ys y G hk hy => by obtain ⟨rfl, rfl⟩ := hy; exact ⟨rfl, rfl⟩⟩
theorem valR_str : FieldOf valR Rep.str 2 (·.str) (fun s y => { s with str := y }) := by
  refine ⟨by show 2 + 1 ≤ 4; omega, ?_⟩
  rintro w cs s F ⟨rfl, rfl⟩
  exact ⟨[], [], [], rfl, ⟨rfl, rfl⟩, fun w2 ys y G hk hy => by obtain ⟨rfl, rfl⟩ := hy; exact ⟨rfl, rfl⟩⟩
theorem valR_ref : FieldOf valR (Rep.int .i64) 3 (·.ref) (fun s y => { s with ref := y }) := by
  refine ⟨by show 3 + 1 ≤ 4; omega, ?_⟩
  rintro w cs s F ⟨rfl, rfl⟩
  exact ⟨[], [], [], rfl, ⟨rfl, rfl⟩, fun w2 ys y G hk hy => by obtain ⟨rfl, rfl⟩ := hy; exact ⟨rfl, rfl⟩⟩
structure Prp where
  key : ByteArray
  vkind : Int
  vint : Int
  vstr : ByteArray
  vref : Int
def Prp.cells (s : Prp) : List Value := [.string s.key, .int .i64 s.vkind, .int .i64 s.vint, .string s.vstr, .int .i64 s.vref]
theorem Prp.len (s : Prp) : s.cells.length = 5 := rfl
def propR : Rep Prp := Rep.flat 5 Prp.cells Prp.len
theorem propR_key : FieldOf propR Rep.str 0 (·.key) (fun s y => { s with key := y }) := by
  refine ⟨by show 0 + 1 ≤ 5; omega, ?_⟩
  rintro w cs s F ⟨rfl, rfl⟩
  exact ⟨[], [], [], rfl, ⟨rfl, rfl⟩, fun w2 ys y G hk hy => by obtain ⟨rfl, rfl⟩ := hy; exact ⟨rfl, rfl⟩⟩
theorem propR_vkind : FieldOf propR (Rep.int .i64) 1 (·.vkind) (fun s y => { s with vkind := y }) := by
  refine ⟨by show 1 + 1 ≤ 5; omega, ?_⟩
  rintro w cs s F ⟨rfl, rfl⟩
  exact ⟨[], [], [], rfl, ⟨rfl, rfl⟩, fun w2 ys y G hk hy => by obtain ⟨rfl, rfl⟩ := hy; exact ⟨rfl, rfl⟩⟩
theorem propR_vint : FieldOf propR (Rep.int .i64) 2 (·.vint) (fun s y => { s with vint := y }) := by
  refine ⟨by show 2 + 1 ≤ 5; omega, ?_⟩
  rintro w cs s F ⟨rfl, rfl⟩
  exact ⟨[], [], [], rfl, ⟨rfl, rfl⟩, fun w2 ys y G hk hy => by obtain ⟨rfl, rfl⟩ := hy; exact ⟨rfl, rfl⟩⟩
theorem propR_vstr : FieldOf propR Rep.str 3 (·.vstr) (fun s y => { s with vstr := y }) := by
  refine ⟨by show 3 + 1 ≤ 5; omega, ?_⟩
  rintro w cs s F ⟨rfl, rfl⟩
  exact ⟨[], [], [], rfl, ⟨rfl, rfl⟩, fun w2 ys y G hk hy => by obtain ⟨rfl, rfl⟩ := hy; exact ⟨rfl, rfl⟩⟩
theorem propR_vref : FieldOf propR (Rep.int .i64) 4 (·.vref) (fun s y => { s with vref := y }) := by
  refine ⟨by show 4 + 1 ≤ 5; omega, ?_⟩
  rintro w cs s F ⟨rfl, rfl⟩
  exact ⟨[], [], [], rfl, ⟨rfl, rfl⟩, fun w2 ys y G hk hy => by obtain ⟨rfl, rfl⟩ := hy; exact ⟨rfl, rfl⟩⟩
structure Frm where
  kind : Int
  func : Int
  pc : Int
  tkind : Int
  tint : Int
  tstr : ByteArray
  tref : Int
  locals : List Val
  stack : List Val
  env : Int
  scope : Int
  mode : Int
  object : Int
  host : Int
  phase : Int
  values : List Val
def Frm.Own (w : World) (cs : List Value) (s : Frm) (F : List Nat) : Prop :=
  ∃ vlocals vstack vvalues, ∃ Flocals Fstack Fvalues, cs = [.int .i64 s.kind, .int .i64 s.func, .int .i64 s.pc, .int .i64 s.tkind, .int .i64 s.tint, .string s.tstr, .int .i64 s.tref, vlocals, vstack, .int .i64 s.env, .int .i64 s.scope, .int .i64 s.mode, .int .i64 s.object, .int .i64 s.host, .int .i64 s.phase, vvalues] ∧ ((valR).row 38).own w [vlocals] s.locals Flocals ∧ ((valR).row 38).own w [vstack] s.stack Fstack ∧ ((valR).row 38).own w [vvalues] s.values Fvalues ∧ F = Flocals ++ Fstack ++ Fvalues
def frmR : Rep Frm where
  n := 16
  own := Frm.Own
  len := by rintro w cs s F ⟨vlocals, vstack, vvalues, Flocals, Fstack, Fvalues, rfl, hlocals, hstack, hvalues, rfl⟩; rfl
  lt := by
    rintro w cs s F ⟨vlocals, vstack, vvalues, Flocals, Fstack, Fvalues, rfl, hlocals, hstack, hvalues, rfl⟩ k hk
    simp only [List.mem_append] at hk
    rcases hk with (hk | hk) | hk
    · exact ((valR).row 38).lt hlocals k hk
    · exact ((valR).row 38).lt hstack k hk
    · exact ((valR).row 38).lt hvalues k hk
  keep := by
    rintro w w2 cs s F ⟨vlocals, vstack, vvalues, Flocals, Fstack, Fvalues, rfl, hlocals, hstack, hvalues, rfl⟩ hk
    exact ⟨_, _, _, _, _, _, rfl, ((valR).row 38).keep hlocals (fun k hm => hk k (by simp [hm])), ((valR).row 38).keep hstack (fun k hm => hk k (by simp [hm])), ((valR).row 38).keep hvalues (fun k hm => hk k (by simp [hm])), rfl⟩
theorem frmR_kind : FieldOf frmR (Rep.int .i64) 0 (·.kind) (fun s y => { s with kind := y }) := by
  refine ⟨by show 0 + 1 ≤ 16; omega, ?_⟩
  rintro w cs s F ⟨vlocals, vstack, vvalues, Flocals, Fstack, Fvalues, rfl, hlocals, hstack, hvalues, rfl⟩
  refine ⟨Flocals ++ Fstack ++ Fvalues, [], [], by simp, ⟨rfl, rfl⟩, fun w2 ys y G hk hy => ?_⟩
  obtain ⟨rfl, rfl⟩ := hy
  exact ⟨_, _, _, _, _, _, rfl, ((valR).row 38).keep hlocals (fun k hm => hk k (by simp [hm])), ((valR).row 38).keep hstack (fun k hm => hk k (by simp [hm])), ((valR).row 38).keep hvalues (fun k hm => hk k (by simp [hm])), by simp⟩
theorem frmR_func : FieldOf frmR (Rep.int .i64) 1 (·.func) (fun s y => { s with func := y }) := by
  refine ⟨by show 1 + 1 ≤ 16; omega, ?_⟩
  rintro w cs s F ⟨vlocals, vstack, vvalues, Flocals, Fstack, Fvalues, rfl, hlocals, hstack, hvalues, rfl⟩
  refine ⟨Flocals ++ Fstack ++ Fvalues, [], [], by simp, ⟨rfl, rfl⟩, fun w2 ys y G hk hy => ?_⟩
  obtain ⟨rfl, rfl⟩ := hy
  exact ⟨_, _, _, _, _, _, rfl, ((valR).row 38).keep hlocals (fun k hm => hk k (by simp [hm])), ((valR).row 38).keep hstack (fun k hm => hk k (by simp [hm])), ((valR).row 38).keep hvalues (fun k hm => hk k (by simp [hm])), by simp⟩
theorem frmR_pc : FieldOf frmR (Rep.int .i64) 2 (·.pc) (fun s y => { s with pc := y }) := by
  refine ⟨by show 2 + 1 ≤ 16; omega, ?_⟩
  rintro w cs s F ⟨vlocals, vstack, vvalues, Flocals, Fstack, Fvalues, rfl, hlocals, hstack, hvalues, rfl⟩
  refine ⟨Flocals ++ Fstack ++ Fvalues, [], [], by simp, ⟨rfl, rfl⟩, fun w2 ys y G hk hy => ?_⟩
  obtain ⟨rfl, rfl⟩ := hy
  exact ⟨_, _, _, _, _, _, rfl, ((valR).row 38).keep hlocals (fun k hm => hk k (by simp [hm])), ((valR).row 38).keep hstack (fun k hm => hk k (by simp [hm])), ((valR).row 38).keep hvalues (fun k hm => hk k (by simp [hm])), by simp⟩
theorem frmR_tkind : FieldOf frmR (Rep.int .i64) 3 (·.tkind) (fun s y => { s with tkind := y }) := by
  refine ⟨by show 3 + 1 ≤ 16; omega, ?_⟩
  rintro w cs s F ⟨vlocals, vstack, vvalues, Flocals, Fstack, Fvalues, rfl, hlocals, hstack, hvalues, rfl⟩
  refine ⟨Flocals ++ Fstack ++ Fvalues, [], [], by simp, ⟨rfl, rfl⟩, fun w2 ys y G hk hy => ?_⟩
  obtain ⟨rfl, rfl⟩ := hy
  exact ⟨_, _, _, _, _, _, rfl, ((valR).row 38).keep hlocals (fun k hm => hk k (by simp [hm])), ((valR).row 38).keep hstack (fun k hm => hk k (by simp [hm])), ((valR).row 38).keep hvalues (fun k hm => hk k (by simp [hm])), by simp⟩
theorem frmR_tint : FieldOf frmR (Rep.int .i64) 4 (·.tint) (fun s y => { s with tint := y }) := by
  refine ⟨by show 4 + 1 ≤ 16; omega, ?_⟩
  rintro w cs s F ⟨vlocals, vstack, vvalues, Flocals, Fstack, Fvalues, rfl, hlocals, hstack, hvalues, rfl⟩
  refine ⟨Flocals ++ Fstack ++ Fvalues, [], [], by simp, ⟨rfl, rfl⟩, fun w2 ys y G hk hy => ?_⟩
  obtain ⟨rfl, rfl⟩ := hy
  exact ⟨_, _, _, _, _, _, rfl, ((valR).row 38).keep hlocals (fun k hm => hk k (by simp [hm])), ((valR).row 38).keep hstack (fun k hm => hk k (by simp [hm])), ((valR).row 38).keep hvalues (fun k hm => hk k (by simp [hm])), by simp⟩
theorem frmR_tstr : FieldOf frmR Rep.str 5 (·.tstr) (fun s y => { s with tstr := y }) := by
  refine ⟨by show 5 + 1 ≤ 16; omega, ?_⟩
  rintro w cs s F ⟨vlocals, vstack, vvalues, Flocals, Fstack, Fvalues, rfl, hlocals, hstack, hvalues, rfl⟩
  refine ⟨Flocals ++ Fstack ++ Fvalues, [], [], by simp, ⟨rfl, rfl⟩, fun w2 ys y G hk hy => ?_⟩
  obtain ⟨rfl, rfl⟩ := hy
  exact ⟨_, _, _, _, _, _, rfl, ((valR).row 38).keep hlocals (fun k hm => hk k (by simp [hm])), ((valR).row 38).keep hstack (fun k hm => hk k (by simp [hm])), ((valR).row 38).keep hvalues (fun k hm => hk k (by simp [hm])), by simp⟩
theorem frmR_tref : FieldOf frmR (Rep.int .i64) 6 (·.tref) (fun s y => { s with tref := y }) := by
  refine ⟨by show 6 + 1 ≤ 16; omega, ?_⟩
  rintro w cs s F ⟨vlocals, vstack, vvalues, Flocals, Fstack, Fvalues, rfl, hlocals, hstack, hvalues, rfl⟩
  refine ⟨Flocals ++ Fstack ++ Fvalues, [], [], by simp, ⟨rfl, rfl⟩, fun w2 ys y G hk hy => ?_⟩
  obtain ⟨rfl, rfl⟩ := hy
  exact ⟨_, _, _, _, _, _, rfl, ((valR).row 38).keep hlocals (fun k hm => hk k (by simp [hm])), ((valR).row 38).keep hstack (fun k hm => hk k (by simp [hm])), ((valR).row 38).keep hvalues (fun k hm => hk k (by simp [hm])), by simp⟩
theorem frmR_locals : FieldOf frmR ((valR).row 38) 7 (·.locals) (fun s y => { s with locals := y }) := by
  refine ⟨by show 7 + 1 ≤ 16; omega, ?_⟩
  rintro w cs s F ⟨vlocals, vstack, vvalues, Flocals, Fstack, Fvalues, rfl, hlocals, hstack, hvalues, rfl⟩
  refine ⟨[], Flocals, Fstack ++ Fvalues, by simp, hlocals, fun w2 ys y G hk hy => ?_⟩
  obtain ⟨y0, rfl⟩ : ∃ y0, ys = [y0] := List.length_eq_one_iff.1 (((valR).row 38).len hy)
  exact ⟨_, _, _, G, Fstack, Fvalues, rfl, hy, ((valR).row 38).keep hstack (fun k hm => hk k (by simp [hm])), ((valR).row 38).keep hvalues (fun k hm => hk k (by simp [hm])), by simp⟩
theorem frmR_stack : FieldOf frmR ((valR).row 38) 8 (·.stack) (fun s y => { s with stack := y }) := by
  refine ⟨by show 8 + 1 ≤ 16; omega, ?_⟩
  rintro w cs s F ⟨vlocals, vstack, vvalues, Flocals, Fstack, Fvalues, rfl, hlocals, hstack, hvalues, rfl⟩
  refine ⟨Flocals, Fstack, Fvalues, by simp, hstack, fun w2 ys y G hk hy => ?_⟩
  obtain ⟨y0, rfl⟩ : ∃ y0, ys = [y0] := List.length_eq_one_iff.1 (((valR).row 38).len hy)
  exact ⟨_, _, _, Flocals, G, Fvalues, rfl, ((valR).row 38).keep hlocals (fun k hm => hk k (by simp [hm])), hy, ((valR).row 38).keep hvalues (fun k hm => hk k (by simp [hm])), by simp⟩
theorem frmR_env : FieldOf frmR (Rep.int .i64) 9 (·.env) (fun s y => { s with env := y }) := by
  refine ⟨by show 9 + 1 ≤ 16; omega, ?_⟩
  rintro w cs s F ⟨vlocals, vstack, vvalues, Flocals, Fstack, Fvalues, rfl, hlocals, hstack, hvalues, rfl⟩
  refine ⟨Flocals ++ Fstack ++ Fvalues, [], [], by simp, ⟨rfl, rfl⟩, fun w2 ys y G hk hy => ?_⟩
  obtain ⟨rfl, rfl⟩ := hy
  exact ⟨_, _, _, _, _, _, rfl, ((valR).row 38).keep hlocals (fun k hm => hk k (by simp [hm])), ((valR).row 38).keep hstack (fun k hm => hk k (by simp [hm])), ((valR).row 38).keep hvalues (fun k hm => hk k (by simp [hm])), by simp⟩
theorem frmR_scope : FieldOf frmR (Rep.int .i64) 10 (·.scope) (fun s y => { s with scope := y }) := by
  refine ⟨by show 10 + 1 ≤ 16; omega, ?_⟩
  rintro w cs s F ⟨vlocals, vstack, vvalues, Flocals, Fstack, Fvalues, rfl, hlocals, hstack, hvalues, rfl⟩
  refine ⟨Flocals ++ Fstack ++ Fvalues, [], [], by simp, ⟨rfl, rfl⟩, fun w2 ys y G hk hy => ?_⟩
  obtain ⟨rfl, rfl⟩ := hy
  exact ⟨_, _, _, _, _, _, rfl, ((valR).row 38).keep hlocals (fun k hm => hk k (by simp [hm])), ((valR).row 38).keep hstack (fun k hm => hk k (by simp [hm])), ((valR).row 38).keep hvalues (fun k hm => hk k (by simp [hm])), by simp⟩
theorem frmR_mode : FieldOf frmR (Rep.int .i64) 11 (·.mode) (fun s y => { s with mode := y }) := by
  refine ⟨by show 11 + 1 ≤ 16; omega, ?_⟩
  rintro w cs s F ⟨vlocals, vstack, vvalues, Flocals, Fstack, Fvalues, rfl, hlocals, hstack, hvalues, rfl⟩
  refine ⟨Flocals ++ Fstack ++ Fvalues, [], [], by simp, ⟨rfl, rfl⟩, fun w2 ys y G hk hy => ?_⟩
  obtain ⟨rfl, rfl⟩ := hy
  exact ⟨_, _, _, _, _, _, rfl, ((valR).row 38).keep hlocals (fun k hm => hk k (by simp [hm])), ((valR).row 38).keep hstack (fun k hm => hk k (by simp [hm])), ((valR).row 38).keep hvalues (fun k hm => hk k (by simp [hm])), by simp⟩
theorem frmR_object : FieldOf frmR (Rep.int .i64) 12 (·.object) (fun s y => { s with object := y }) := by
  refine ⟨by show 12 + 1 ≤ 16; omega, ?_⟩
  rintro w cs s F ⟨vlocals, vstack, vvalues, Flocals, Fstack, Fvalues, rfl, hlocals, hstack, hvalues, rfl⟩
  refine ⟨Flocals ++ Fstack ++ Fvalues, [], [], by simp, ⟨rfl, rfl⟩, fun w2 ys y G hk hy => ?_⟩
  obtain ⟨rfl, rfl⟩ := hy
  exact ⟨_, _, _, _, _, _, rfl, ((valR).row 38).keep hlocals (fun k hm => hk k (by simp [hm])), ((valR).row 38).keep hstack (fun k hm => hk k (by simp [hm])), ((valR).row 38).keep hvalues (fun k hm => hk k (by simp [hm])), by simp⟩
theorem frmR_host : FieldOf frmR (Rep.int .i64) 13 (·.host) (fun s y => { s with host := y }) := by
  refine ⟨by show 13 + 1 ≤ 16; omega, ?_⟩
  rintro w cs s F ⟨vlocals, vstack, vvalues, Flocals, Fstack, Fvalues, rfl, hlocals, hstack, hvalues, rfl⟩
  refine ⟨Flocals ++ Fstack ++ Fvalues, [], [], by simp, ⟨rfl, rfl⟩, fun w2 ys y G hk hy => ?_⟩
  obtain ⟨rfl, rfl⟩ := hy
  exact ⟨_, _, _, _, _, _, rfl, ((valR).row 38).keep hlocals (fun k hm => hk k (by simp [hm])), ((valR).row 38).keep hstack (fun k hm => hk k (by simp [hm])), ((valR).row 38).keep hvalues (fun k hm => hk k (by simp [hm])), by simp⟩
theorem frmR_phase : FieldOf frmR (Rep.int .i64) 14 (·.phase) (fun s y => { s with phase := y }) := by
  refine ⟨by show 14 + 1 ≤ 16; omega, ?_⟩
  rintro w cs s F ⟨vlocals, vstack, vvalues, Flocals, Fstack, Fvalues, rfl, hlocals, hstack, hvalues, rfl⟩
  refine ⟨Flocals ++ Fstack ++ Fvalues, [], [], by simp, ⟨rfl, rfl⟩, fun w2 ys y G hk hy => ?_⟩
  obtain ⟨rfl, rfl⟩ := hy
  exact ⟨_, _, _, _, _, _, rfl, ((valR).row 38).keep hlocals (fun k hm => hk k (by simp [hm])), ((valR).row 38).keep hstack (fun k hm => hk k (by simp [hm])), ((valR).row 38).keep hvalues (fun k hm => hk k (by simp [hm])), by simp⟩
theorem frmR_values : FieldOf frmR ((valR).row 38) 15 (·.values) (fun s y => { s with values := y }) := by
  refine ⟨by show 15 + 1 ≤ 16; omega, ?_⟩
  rintro w cs s F ⟨vlocals, vstack, vvalues, Flocals, Fstack, Fvalues, rfl, hlocals, hstack, hvalues, rfl⟩
  refine ⟨Flocals ++ Fstack, Fvalues, [], by simp, hvalues, fun w2 ys y G hk hy => ?_⟩
  obtain ⟨y0, rfl⟩ : ∃ y0, ys = [y0] := List.length_eq_one_iff.1 (((valR).row 38).len hy)
  exact ⟨_, _, _, Flocals, Fstack, G, rfl, ((valR).row 38).keep hlocals (fun k hm => hk k (by simp [hm])), ((valR).row 38).keep hstack (fun k hm => hk k (by simp [hm])), hy, by simp⟩
structure Obj where
  kind : Int
  proto : Int
  props : List Prp
  elems : List Val
  data : List Val
  code : Int
  env : Int
  cls : Int
  ref : Int
  saved : List Frm
def Obj.Own (w : World) (cs : List Value) (s : Obj) (F : List Nat) : Prop :=
  ∃ vprops velems vdata vsaved, ∃ Fprops Felems Fdata Fsaved, cs = [.int .i64 s.kind, .int .i64 s.proto, vprops, velems, vdata, .int .i64 s.code, .int .i64 s.env, .int .i64 s.cls, .int .i64 s.ref, vsaved] ∧ ((propR).row 81).own w [vprops] s.props Fprops ∧ ((valR).row 38).own w [velems] s.elems Felems ∧ ((valR).row 38).own w [vdata] s.data Fdata ∧ ((frmR).row 106).own w [vsaved] s.saved Fsaved ∧ F = Fprops ++ Felems ++ Fdata ++ Fsaved
def objR : Rep Obj where
  n := 10
  own := Obj.Own
  len := by rintro w cs s F ⟨vprops, velems, vdata, vsaved, Fprops, Felems, Fdata, Fsaved, rfl, hprops, helems, hdata, hsaved, rfl⟩; rfl
  lt := by
    rintro w cs s F ⟨vprops, velems, vdata, vsaved, Fprops, Felems, Fdata, Fsaved, rfl, hprops, helems, hdata, hsaved, rfl⟩ k hk
    simp only [List.mem_append] at hk
    rcases hk with ((hk | hk) | hk) | hk
    · exact ((propR).row 81).lt hprops k hk
    · exact ((valR).row 38).lt helems k hk
    · exact ((valR).row 38).lt hdata k hk
    · exact ((frmR).row 106).lt hsaved k hk
  keep := by
    rintro w w2 cs s F ⟨vprops, velems, vdata, vsaved, Fprops, Felems, Fdata, Fsaved, rfl, hprops, helems, hdata, hsaved, rfl⟩ hk
    exact ⟨_, _, _, _, _, _, _, _, rfl, ((propR).row 81).keep hprops (fun k hm => hk k (by simp [hm])), ((valR).row 38).keep helems (fun k hm => hk k (by simp [hm])), ((valR).row 38).keep hdata (fun k hm => hk k (by simp [hm])), ((frmR).row 106).keep hsaved (fun k hm => hk k (by simp [hm])), rfl⟩
theorem objR_kind : FieldOf objR (Rep.int .i64) 0 (·.kind) (fun s y => { s with kind := y }) := by
  refine ⟨by show 0 + 1 ≤ 10; omega, ?_⟩
  rintro w cs s F ⟨vprops, velems, vdata, vsaved, Fprops, Felems, Fdata, Fsaved, rfl, hprops, helems, hdata, hsaved, rfl⟩
  refine ⟨Fprops ++ Felems ++ Fdata ++ Fsaved, [], [], by simp, ⟨rfl, rfl⟩, fun w2 ys y G hk hy => ?_⟩
  obtain ⟨rfl, rfl⟩ := hy
  exact ⟨_, _, _, _, _, _, _, _, rfl, ((propR).row 81).keep hprops (fun k hm => hk k (by simp [hm])), ((valR).row 38).keep helems (fun k hm => hk k (by simp [hm])), ((valR).row 38).keep hdata (fun k hm => hk k (by simp [hm])), ((frmR).row 106).keep hsaved (fun k hm => hk k (by simp [hm])), by simp⟩
theorem objR_proto : FieldOf objR (Rep.int .i64) 1 (·.proto) (fun s y => { s with proto := y }) := by
  refine ⟨by show 1 + 1 ≤ 10; omega, ?_⟩
  rintro w cs s F ⟨vprops, velems, vdata, vsaved, Fprops, Felems, Fdata, Fsaved, rfl, hprops, helems, hdata, hsaved, rfl⟩
  refine ⟨Fprops ++ Felems ++ Fdata ++ Fsaved, [], [], by simp, ⟨rfl, rfl⟩, fun w2 ys y G hk hy => ?_⟩
  obtain ⟨rfl, rfl⟩ := hy
  exact ⟨_, _, _, _, _, _, _, _, rfl, ((propR).row 81).keep hprops (fun k hm => hk k (by simp [hm])), ((valR).row 38).keep helems (fun k hm => hk k (by simp [hm])), ((valR).row 38).keep hdata (fun k hm => hk k (by simp [hm])), ((frmR).row 106).keep hsaved (fun k hm => hk k (by simp [hm])), by simp⟩
theorem objR_props : FieldOf objR ((propR).row 81) 2 (·.props) (fun s y => { s with props := y }) := by
  refine ⟨by show 2 + 1 ≤ 10; omega, ?_⟩
  rintro w cs s F ⟨vprops, velems, vdata, vsaved, Fprops, Felems, Fdata, Fsaved, rfl, hprops, helems, hdata, hsaved, rfl⟩
  refine ⟨[], Fprops, Felems ++ Fdata ++ Fsaved, by simp, hprops, fun w2 ys y G hk hy => ?_⟩
  obtain ⟨y0, rfl⟩ : ∃ y0, ys = [y0] := List.length_eq_one_iff.1 (((propR).row 81).len hy)
  exact ⟨_, _, _, _, G, Felems, Fdata, Fsaved, rfl, hy, ((valR).row 38).keep helems (fun k hm => hk k (by simp [hm])), ((valR).row 38).keep hdata (fun k hm => hk k (by simp [hm])), ((frmR).row 106).keep hsaved (fun k hm => hk k (by simp [hm])), by simp⟩
theorem objR_elems : FieldOf objR ((valR).row 38) 3 (·.elems) (fun s y => { s with elems := y }) := by
  refine ⟨by show 3 + 1 ≤ 10; omega, ?_⟩
  rintro w cs s F ⟨vprops, velems, vdata, vsaved, Fprops, Felems, Fdata, Fsaved, rfl, hprops, helems, hdata, hsaved, rfl⟩
  refine ⟨Fprops, Felems, Fdata ++ Fsaved, by simp, helems, fun w2 ys y G hk hy => ?_⟩
  obtain ⟨y0, rfl⟩ : ∃ y0, ys = [y0] := List.length_eq_one_iff.1 (((valR).row 38).len hy)
  exact ⟨_, _, _, _, Fprops, G, Fdata, Fsaved, rfl, ((propR).row 81).keep hprops (fun k hm => hk k (by simp [hm])), hy, ((valR).row 38).keep hdata (fun k hm => hk k (by simp [hm])), ((frmR).row 106).keep hsaved (fun k hm => hk k (by simp [hm])), by simp⟩
theorem objR_data : FieldOf objR ((valR).row 38) 4 (·.data) (fun s y => { s with data := y }) := by
  refine ⟨by show 4 + 1 ≤ 10; omega, ?_⟩
  rintro w cs s F ⟨vprops, velems, vdata, vsaved, Fprops, Felems, Fdata, Fsaved, rfl, hprops, helems, hdata, hsaved, rfl⟩
  refine ⟨Fprops ++ Felems, Fdata, Fsaved, by simp, hdata, fun w2 ys y G hk hy => ?_⟩
  obtain ⟨y0, rfl⟩ : ∃ y0, ys = [y0] := List.length_eq_one_iff.1 (((valR).row 38).len hy)
  exact ⟨_, _, _, _, Fprops, Felems, G, Fsaved, rfl, ((propR).row 81).keep hprops (fun k hm => hk k (by simp [hm])), ((valR).row 38).keep helems (fun k hm => hk k (by simp [hm])), hy, ((frmR).row 106).keep hsaved (fun k hm => hk k (by simp [hm])), by simp⟩
theorem objR_code : FieldOf objR (Rep.int .i64) 5 (·.code) (fun s y => { s with code := y }) := by
  refine ⟨by show 5 + 1 ≤ 10; omega, ?_⟩
  rintro w cs s F ⟨vprops, velems, vdata, vsaved, Fprops, Felems, Fdata, Fsaved, rfl, hprops, helems, hdata, hsaved, rfl⟩
  refine ⟨Fprops ++ Felems ++ Fdata ++ Fsaved, [], [], by simp, ⟨rfl, rfl⟩, fun w2 ys y G hk hy => ?_⟩
  obtain ⟨rfl, rfl⟩ := hy
  exact ⟨_, _, _, _, _, _, _, _, rfl, ((propR).row 81).keep hprops (fun k hm => hk k (by simp [hm])), ((valR).row 38).keep helems (fun k hm => hk k (by simp [hm])), ((valR).row 38).keep hdata (fun k hm => hk k (by simp [hm])), ((frmR).row 106).keep hsaved (fun k hm => hk k (by simp [hm])), by simp⟩
theorem objR_env : FieldOf objR (Rep.int .i64) 6 (·.env) (fun s y => { s with env := y }) := by
  refine ⟨by show 6 + 1 ≤ 10; omega, ?_⟩
  rintro w cs s F ⟨vprops, velems, vdata, vsaved, Fprops, Felems, Fdata, Fsaved, rfl, hprops, helems, hdata, hsaved, rfl⟩
  refine ⟨Fprops ++ Felems ++ Fdata ++ Fsaved, [], [], by simp, ⟨rfl, rfl⟩, fun w2 ys y G hk hy => ?_⟩
  obtain ⟨rfl, rfl⟩ := hy
  exact ⟨_, _, _, _, _, _, _, _, rfl, ((propR).row 81).keep hprops (fun k hm => hk k (by simp [hm])), ((valR).row 38).keep helems (fun k hm => hk k (by simp [hm])), ((valR).row 38).keep hdata (fun k hm => hk k (by simp [hm])), ((frmR).row 106).keep hsaved (fun k hm => hk k (by simp [hm])), by simp⟩
theorem objR_cls : FieldOf objR (Rep.int .i64) 7 (·.cls) (fun s y => { s with cls := y }) := by
  refine ⟨by show 7 + 1 ≤ 10; omega, ?_⟩
  rintro w cs s F ⟨vprops, velems, vdata, vsaved, Fprops, Felems, Fdata, Fsaved, rfl, hprops, helems, hdata, hsaved, rfl⟩
  refine ⟨Fprops ++ Felems ++ Fdata ++ Fsaved, [], [], by simp, ⟨rfl, rfl⟩, fun w2 ys y G hk hy => ?_⟩
  obtain ⟨rfl, rfl⟩ := hy
  exact ⟨_, _, _, _, _, _, _, _, rfl, ((propR).row 81).keep hprops (fun k hm => hk k (by simp [hm])), ((valR).row 38).keep helems (fun k hm => hk k (by simp [hm])), ((valR).row 38).keep hdata (fun k hm => hk k (by simp [hm])), ((frmR).row 106).keep hsaved (fun k hm => hk k (by simp [hm])), by simp⟩
theorem objR_ref : FieldOf objR (Rep.int .i64) 8 (·.ref) (fun s y => { s with ref := y }) := by
  refine ⟨by show 8 + 1 ≤ 10; omega, ?_⟩
  rintro w cs s F ⟨vprops, velems, vdata, vsaved, Fprops, Felems, Fdata, Fsaved, rfl, hprops, helems, hdata, hsaved, rfl⟩
  refine ⟨Fprops ++ Felems ++ Fdata ++ Fsaved, [], [], by simp, ⟨rfl, rfl⟩, fun w2 ys y G hk hy => ?_⟩
  obtain ⟨rfl, rfl⟩ := hy
  exact ⟨_, _, _, _, _, _, _, _, rfl, ((propR).row 81).keep hprops (fun k hm => hk k (by simp [hm])), ((valR).row 38).keep helems (fun k hm => hk k (by simp [hm])), ((valR).row 38).keep hdata (fun k hm => hk k (by simp [hm])), ((frmR).row 106).keep hsaved (fun k hm => hk k (by simp [hm])), by simp⟩
theorem objR_saved : FieldOf objR ((frmR).row 106) 9 (·.saved) (fun s y => { s with saved := y }) := by
  refine ⟨by show 9 + 1 ≤ 10; omega, ?_⟩
  rintro w cs s F ⟨vprops, velems, vdata, vsaved, Fprops, Felems, Fdata, Fsaved, rfl, hprops, helems, hdata, hsaved, rfl⟩
  refine ⟨Fprops ++ Felems ++ Fdata, Fsaved, [], by simp, hsaved, fun w2 ys y G hk hy => ?_⟩
  obtain ⟨y0, rfl⟩ : ∃ y0, ys = [y0] := List.length_eq_one_iff.1 (((frmR).row 106).len hy)
  exact ⟨_, _, _, _, Fprops, Felems, Fdata, G, rfl, ((propR).row 81).keep hprops (fun k hm => hk k (by simp [hm])), ((valR).row 38).keep helems (fun k hm => hk k (by simp [hm])), ((valR).row 38).keep hdata (fun k hm => hk k (by simp [hm])), hy, by simp⟩
structure Slt where
  used : Bool
  obj : Obj
def Slt.Own (w : World) (cs : List Value) (s : Slt) (F : List Nat) : Prop := ∃ xs, cs = .bool s.used :: xs ∧ objR.own w xs s.obj F
def sltR : Rep Slt where
  n := 11
  own := Slt.Own
  len := by rintro w cs s F ⟨xs, rfl, h⟩; rw [List.length_cons, objR.len h]; rfl
  lt := by rintro w cs s F ⟨xs, rfl, h⟩; exact objR.lt h
  keep := by rintro w w2 cs s F ⟨xs, rfl, h⟩ hk; exact ⟨xs, rfl, objR.keep h hk⟩
theorem sltR_used : FieldOf sltR Rep.bool 0 (·.used) (fun s y => { s with used := y }) := by
  refine ⟨by show 0 + 1 ≤ 11; omega, ?_⟩
  rintro w cs s F ⟨xs, rfl, h⟩
  refine ⟨F, [], [], by simp, ⟨rfl, rfl⟩, fun w2 ys y G hk hy => ?_⟩
  obtain ⟨rfl, rfl⟩ := hy
  rw [List.append_nil, List.append_nil]
  exact ⟨xs, rfl, objR.keep h (fun k hm => hk k (by simp [hm]))⟩
theorem sltR_obj : FieldOf sltR objR 1 (·.obj) (fun s y => { s with obj := y }) := by
  refine ⟨by show 1 + 10 ≤ 11; omega, ?_⟩
  rintro w cs s F ⟨xs, rfl, h⟩
  have hl : xs.length = 10 := objR.len h
  refine ⟨[], F, [], by simp, ?_, fun w2 ys y G hk hy => ?_⟩
  · show objR.own w (xs.take 10) s.obj F
    rw [List.take_of_length_le (by omega)]
    exact h
  · have hd : (Value.bool s.used :: xs).drop (1 + objR.n) = [] := by
      show xs.drop 10 = []
      exact List.drop_of_length_le (by omega)
    rw [hd]
    refine ⟨ys, by simp, by simpa using hy⟩
structure Hp where
  base : Int
  stride : Int
  slots : List Slt
  free : List Int
  live : Int
  global : Int
  texts : Int
  protos : List Int
def Hp.Own (w : World) (cs : List Value) (s : Hp) (F : List Nat) : Prop :=
  ∃ vslots vfree vprotos, ∃ Fslots Ffree Fprotos, cs = [.int .i64 s.base, .int .i64 s.stride, vslots, vfree, .int .i64 s.live, .int .i64 s.global, .int .i64 s.texts, vprotos] ∧ ((sltR).row 83).own w [vslots] s.slots Fslots ∧ ((Rep.int .i64).row 3).own w [vfree] s.free Ffree ∧ ((Rep.int .i64).row 3).own w [vprotos] s.protos Fprotos ∧ F = Fslots ++ Ffree ++ Fprotos
def hpR : Rep Hp where
  n := 8
  own := Hp.Own
  len := by rintro w cs s F ⟨vslots, vfree, vprotos, Fslots, Ffree, Fprotos, rfl, hslots, hfree, hprotos, rfl⟩; rfl
  lt := by
    rintro w cs s F ⟨vslots, vfree, vprotos, Fslots, Ffree, Fprotos, rfl, hslots, hfree, hprotos, rfl⟩ k hk
    simp only [List.mem_append] at hk
    rcases hk with (hk | hk) | hk
    · exact ((sltR).row 83).lt hslots k hk
    · exact ((Rep.int .i64).row 3).lt hfree k hk
    · exact ((Rep.int .i64).row 3).lt hprotos k hk
  keep := by
    rintro w w2 cs s F ⟨vslots, vfree, vprotos, Fslots, Ffree, Fprotos, rfl, hslots, hfree, hprotos, rfl⟩ hk
    exact ⟨_, _, _, _, _, _, rfl, ((sltR).row 83).keep hslots (fun k hm => hk k (by simp [hm])), ((Rep.int .i64).row 3).keep hfree (fun k hm => hk k (by simp [hm])), ((Rep.int .i64).row 3).keep hprotos (fun k hm => hk k (by simp [hm])), rfl⟩
theorem hpR_base : FieldOf hpR (Rep.int .i64) 0 (·.base) (fun s y => { s with base := y }) := by
  refine ⟨by show 0 + 1 ≤ 8; omega, ?_⟩
  rintro w cs s F ⟨vslots, vfree, vprotos, Fslots, Ffree, Fprotos, rfl, hslots, hfree, hprotos, rfl⟩
  refine ⟨Fslots ++ Ffree ++ Fprotos, [], [], by simp, ⟨rfl, rfl⟩, fun w2 ys y G hk hy => ?_⟩
  obtain ⟨rfl, rfl⟩ := hy
  exact ⟨_, _, _, _, _, _, rfl, ((sltR).row 83).keep hslots (fun k hm => hk k (by simp [hm])), ((Rep.int .i64).row 3).keep hfree (fun k hm => hk k (by simp [hm])), ((Rep.int .i64).row 3).keep hprotos (fun k hm => hk k (by simp [hm])), by simp⟩
theorem hpR_stride : FieldOf hpR (Rep.int .i64) 1 (·.stride) (fun s y => { s with stride := y }) := by
  refine ⟨by show 1 + 1 ≤ 8; omega, ?_⟩
  rintro w cs s F ⟨vslots, vfree, vprotos, Fslots, Ffree, Fprotos, rfl, hslots, hfree, hprotos, rfl⟩
  refine ⟨Fslots ++ Ffree ++ Fprotos, [], [], by simp, ⟨rfl, rfl⟩, fun w2 ys y G hk hy => ?_⟩
  obtain ⟨rfl, rfl⟩ := hy
  exact ⟨_, _, _, _, _, _, rfl, ((sltR).row 83).keep hslots (fun k hm => hk k (by simp [hm])), ((Rep.int .i64).row 3).keep hfree (fun k hm => hk k (by simp [hm])), ((Rep.int .i64).row 3).keep hprotos (fun k hm => hk k (by simp [hm])), by simp⟩
theorem hpR_slots : FieldOf hpR ((sltR).row 83) 2 (·.slots) (fun s y => { s with slots := y }) := by
  refine ⟨by show 2 + 1 ≤ 8; omega, ?_⟩
  rintro w cs s F ⟨vslots, vfree, vprotos, Fslots, Ffree, Fprotos, rfl, hslots, hfree, hprotos, rfl⟩
  refine ⟨[], Fslots, Ffree ++ Fprotos, by simp, hslots, fun w2 ys y G hk hy => ?_⟩
  obtain ⟨y0, rfl⟩ : ∃ y0, ys = [y0] := List.length_eq_one_iff.1 (((sltR).row 83).len hy)
  exact ⟨_, _, _, G, Ffree, Fprotos, rfl, hy, ((Rep.int .i64).row 3).keep hfree (fun k hm => hk k (by simp [hm])), ((Rep.int .i64).row 3).keep hprotos (fun k hm => hk k (by simp [hm])), by simp⟩
theorem hpR_free : FieldOf hpR ((Rep.int .i64).row 3) 3 (·.free) (fun s y => { s with free := y }) := by
  refine ⟨by show 3 + 1 ≤ 8; omega, ?_⟩
  rintro w cs s F ⟨vslots, vfree, vprotos, Fslots, Ffree, Fprotos, rfl, hslots, hfree, hprotos, rfl⟩
  refine ⟨Fslots, Ffree, Fprotos, by simp, hfree, fun w2 ys y G hk hy => ?_⟩
  obtain ⟨y0, rfl⟩ : ∃ y0, ys = [y0] := List.length_eq_one_iff.1 (((Rep.int .i64).row 3).len hy)
  exact ⟨_, _, _, Fslots, G, Fprotos, rfl, ((sltR).row 83).keep hslots (fun k hm => hk k (by simp [hm])), hy, ((Rep.int .i64).row 3).keep hprotos (fun k hm => hk k (by simp [hm])), by simp⟩
theorem hpR_live : FieldOf hpR (Rep.int .i64) 4 (·.live) (fun s y => { s with live := y }) := by
  refine ⟨by show 4 + 1 ≤ 8; omega, ?_⟩
  rintro w cs s F ⟨vslots, vfree, vprotos, Fslots, Ffree, Fprotos, rfl, hslots, hfree, hprotos, rfl⟩
  refine ⟨Fslots ++ Ffree ++ Fprotos, [], [], by simp, ⟨rfl, rfl⟩, fun w2 ys y G hk hy => ?_⟩
  obtain ⟨rfl, rfl⟩ := hy
  exact ⟨_, _, _, _, _, _, rfl, ((sltR).row 83).keep hslots (fun k hm => hk k (by simp [hm])), ((Rep.int .i64).row 3).keep hfree (fun k hm => hk k (by simp [hm])), ((Rep.int .i64).row 3).keep hprotos (fun k hm => hk k (by simp [hm])), by simp⟩
theorem hpR_global : FieldOf hpR (Rep.int .i64) 5 (·.global) (fun s y => { s with global := y }) := by
  refine ⟨by show 5 + 1 ≤ 8; omega, ?_⟩
  rintro w cs s F ⟨vslots, vfree, vprotos, Fslots, Ffree, Fprotos, rfl, hslots, hfree, hprotos, rfl⟩
  refine ⟨Fslots ++ Ffree ++ Fprotos, [], [], by simp, ⟨rfl, rfl⟩, fun w2 ys y G hk hy => ?_⟩
  obtain ⟨rfl, rfl⟩ := hy
  exact ⟨_, _, _, _, _, _, rfl, ((sltR).row 83).keep hslots (fun k hm => hk k (by simp [hm])), ((Rep.int .i64).row 3).keep hfree (fun k hm => hk k (by simp [hm])), ((Rep.int .i64).row 3).keep hprotos (fun k hm => hk k (by simp [hm])), by simp⟩
theorem hpR_texts : FieldOf hpR (Rep.int .i64) 6 (·.texts) (fun s y => { s with texts := y }) := by
  refine ⟨by show 6 + 1 ≤ 8; omega, ?_⟩
  rintro w cs s F ⟨vslots, vfree, vprotos, Fslots, Ffree, Fprotos, rfl, hslots, hfree, hprotos, rfl⟩
  refine ⟨Fslots ++ Ffree ++ Fprotos, [], [], by simp, ⟨rfl, rfl⟩, fun w2 ys y G hk hy => ?_⟩
  obtain ⟨rfl, rfl⟩ := hy
  exact ⟨_, _, _, _, _, _, rfl, ((sltR).row 83).keep hslots (fun k hm => hk k (by simp [hm])), ((Rep.int .i64).row 3).keep hfree (fun k hm => hk k (by simp [hm])), ((Rep.int .i64).row 3).keep hprotos (fun k hm => hk k (by simp [hm])), by simp⟩
theorem hpR_protos : FieldOf hpR ((Rep.int .i64).row 3) 7 (·.protos) (fun s y => { s with protos := y }) := by
  refine ⟨by show 7 + 1 ≤ 8; omega, ?_⟩
  rintro w cs s F ⟨vslots, vfree, vprotos, Fslots, Ffree, Fprotos, rfl, hslots, hfree, hprotos, rfl⟩
  refine ⟨Fslots ++ Ffree, Fprotos, [], by simp, hprotos, fun w2 ys y G hk hy => ?_⟩
  obtain ⟨y0, rfl⟩ : ∃ y0, ys = [y0] := List.length_eq_one_iff.1 (((Rep.int .i64).row 3).len hy)
  exact ⟨_, _, _, Fslots, Ffree, G, rfl, ((sltR).row 83).keep hslots (fun k hm => hk k (by simp [hm])), ((Rep.int .i64).row 3).keep hfree (fun k hm => hk k (by simp [hm])), hy, by simp⟩

/-- The value of a property; what an object refers to by this. -/
def Prp.val (p : Prp) : Val := ⟨p.vkind, p.vint, p.vstr, p.vref⟩
def Frm.this (f : Frm) : Val := ⟨f.tkind, f.tint, f.tstr, f.tref⟩
end Go.Proofs.YthiiehanlconeaaDoor
