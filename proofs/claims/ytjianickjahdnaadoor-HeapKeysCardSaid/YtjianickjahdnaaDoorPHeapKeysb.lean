/-
  A heap of objects as it lies in memory.
  Arenas: Norm, Index, Handle.
  Arenas: find, At.
  Arenas: Add (where no slot is free), New.
  make([]T, n) where an element is one cell.
  An empty arena; a new heap with its prototypes; Make.
  Copies: a whole row appended onto a row of one's own; a row in a field that is copied, lengthened and stored anew.
-/
import Derived.Test.YtjianickjahdnaaDoorPHeapKeysa
import Derived.Test.YtjianickjahdnaaDoorProg
import Derived.WalkKit
import Derived.WalkSpells
import Derived.WalkLawsBesides
import Derived.Lib.Hide
import Derived.Deep.QuietTactic
import Derived.BigQuiet
import Derived.Deep.DeepCutAuto
import Derived.Deep.CutBlock
import Derived.Deep.RegionLaw
import Derived.Deep.RegionHeld3
import Derived.Laws.StructEq
import Derived.StillTailTactics
import Derived.IntWalk
import Derived.Laws.Rows
import Derived.Laws.MakeOwn
namespace Go.Proofs.YtjianickjahdnaaDoor
open Go.RowKit
set_option linter.unusedVariables false
set_option linter.unusedSimpArgs false

structure Val where
  kind : Int
  int : Int
  str : ByteArray
  ref : Int
def Val.cells (s : Val) : List Value := [.int .i64 s.kind, .int .i64 s.int, .string s.str, .int .i64 s.ref]
theorem Val.len (s : Val) : s.cells.length = 4 := rfl
def valR : Rep Val := Rep.flat 4 Val.cells Val.len
theorem valR_kind : FieldOf valR (Rep.int .i64) 0 (·.kind) (fun s y => { s with kind := y }) := by
  refine ⟨by show 0 + 1 ≤ 4; omega, ?_⟩
  rintro w cs s F ⟨rfl, rfl⟩
  exact ⟨[], [], [], rfl, ⟨rfl, rfl⟩, fun w2 ys y G hk hy => by obtain ⟨rfl, rfl⟩ := hy; exact ⟨rfl, rfl⟩⟩
theorem valR_int : FieldOf valR (Rep.int .i64) 1 (·.int) (fun s y => { s with int := y }) := by
  refine ⟨by show 1 + 1 ≤ 4; omega, ?_⟩
  rintro w cs s F ⟨rfl, rfl⟩
  exact ⟨[], [], [], rfl, ⟨rfl, rfl⟩, fun w2 ys y G hk hy => by obtain ⟨rfl, rfl⟩ := hy; exact ⟨rfl, rfl⟩⟩
theorem valR_str : FieldOf valR Rep.str 2 (·.str) (fun s y => { s with str := y }) := by
  refine ⟨by show 2 + 1 ≤ 4; omega, ?_⟩
  rintro w cs s F ⟨rfl, rfl⟩
  exact ⟨[], [], [], rfl, ⟨rfl, rfl⟩, fun w2 ys y G hk hy => by obtain ⟨rfl, rfl⟩ := hy; exact ⟨rfl, rfl⟩⟩
theorem valR_ref : FieldOf valR (Rep.int .i64) 3 (·.ref) (fun s y => { s with ref := y }) := by
  refine ⟨by show 3 + 1 ≤ 4; omega, ?_⟩
  rintro w cs s F ⟨rfl, rfl⟩
  exact ⟨[], [], [], rfl, ⟨rfl, rfl⟩, fun w2 ys y G hk hy => by obtain ⟨rfl, rfl⟩ := hy; exact ⟨rfl, rfl⟩⟩
structure Prp where
  key : ByteArray
  vkind : Int
  vint : Int
  vstr : ByteArray
  vref : Int
def Prp.cells (s : Prp) : List Value := [.string s.key, .int .i64 s.vkind, .int .i64 s.vint, .string s.vstr, .int .i64 s.vref]
theorem Prp.len (s : Prp) : s.cells.length = 5 := rfl
def propR : Rep Prp := Rep.flat 5 Prp.cells Prp.len
theorem propR_key : FieldOf propR Rep.str 0 (·.key) (fun s y => { s with key := y }) := by
  refine ⟨by show 0 + 1 ≤ 5; omega, ?_⟩
  rintro w cs s F ⟨rfl, rfl⟩
  exact ⟨[], [], [], rfl, ⟨rfl, rfl⟩, fun w2 ys y G hk hy => by obtain ⟨rfl, rfl⟩ := hy; exact ⟨rfl, rfl⟩⟩
theorem propR_vkind : FieldOf propR (Rep.int .i64) 1 (·.vkind) (fun s y => { s with vkind := y }) := by
  refine ⟨by show 1 + 1 ≤ 5; omega, ?_⟩
  rintro w cs s F ⟨rfl, rfl⟩
  exact ⟨[], [], [], rfl, ⟨rfl, rfl⟩, fun w2 ys y G hk hy => by obtain ⟨rfl, rfl⟩ := hy; exact ⟨rfl, rfl⟩⟩
theorem propR_vint : FieldOf propR (Rep.int .i64) 2 (·.vint) (fun s y => { s with vint := y }) := by
  refine ⟨by show 2 + 1 ≤ 5; omega, ?_⟩
  rintro w cs s F ⟨rfl, rfl⟩
  exact ⟨[], [], [], rfl, ⟨rfl, rfl⟩, fun w2 ys y G hk hy => by obtain ⟨rfl, rfl⟩ := hy; exact ⟨rfl, rfl⟩⟩
theorem propR_vstr : FieldOf propR Rep.str 3 (·.vstr) (fun s y => { s with vstr := y }) := by
  refine ⟨by show 3 + 1 ≤ 5; omega, ?_⟩
  rintro w cs s F ⟨rfl, rfl⟩
  exact ⟨[], [], [], rfl, ⟨rfl, rfl⟩, fun w2 ys y G hk hy => by obtain ⟨rfl, rfl⟩ := hy; exact ⟨rfl, rfl⟩⟩
theorem propR_vref : FieldOf propR (Rep.int .i64) 4 (·.vref) (fun s y => { s with vref := y }) := by
  refine ⟨by show 4 + 1 ≤ 5; omega, ?_⟩
  rintro w cs s F ⟨rfl, rfl⟩
  exact ⟨[], [], [], rfl, ⟨rfl, rfl⟩, fun w2 ys y G hk hy => by obtain ⟨rfl, rfl⟩ := hy; exact ⟨rfl, rfl⟩⟩
structure Frm where
  kind : Int
  func : Int
  pc : Int
  tkind : Int
  tint : Int
  tstr : ByteArray
  tref : Int
  locals : List Val
  stack : List Val
  env : Int
  scope : Int
  mode : Int
  object : Int
  host : Int
  phase : Int
  values : List Val
def Frm.Own (w : World) (cs : List Value) (s : Frm) (F : List Nat) : Prop :=
  ∃ vlocals vstack vvalues, ∃ Flocals Fstack Fvalues, cs = [.int .i64 s.kind, .int .i64 s.func, .int .i64 s.pc, .int .i64 s.tkind, .int .i64 s.tint, .string s.tstr, .int .i64 s.tref, vlocals, vstack, .int .i64 s.env, .int .i64 s.scope, .int .i64 s.mode, .int .i64 s.object, .int .i64 s.host, .int .i64 s.phase, vvalues] ∧ ((valR).row 36).own w [vlocals] s.locals Flocals ∧ ((valR).row 36).own w [vstack] s.stack Fstack ∧ ((valR).row 36).own w [vvalues] s.values Fvalues ∧ F = Flocals ++ Fstack ++ Fvalues
def frmR : Rep Frm where
  n := 16
  own := Frm.Own
  len := by rintro w cs s F ⟨vlocals, vstack, vvalues, Flocals, Fstack, Fvalues, rfl, hlocals, hstack, hvalues, rfl⟩; rfl
  lt := by
    rintro w cs s F ⟨vlocals, vstack, vvalues, Flocals, Fstack, Fvalues, rfl, hlocals, hstack, hvalues, rfl⟩ k hk
    simp only [List.mem_append] at hk
    rcases hk with (hk | hk) | hk
    · exact ((valR).row 36).lt hlocals k hk
    · exact ((valR).row 36).lt hstack k hk
    · exact ((valR).row 36).lt hvalues k hk
  keep := by
    rintro w w2 cs s F ⟨vlocals, vstack, vvalues, Flocals, Fstack, Fvalues, rfl, hlocals, hstack, hvalues, rfl⟩ hk
    exact ⟨_, _, _, _, _, _, rfl, ((valR).row 36).keep hlocals (fun k hm => hk k (by simp [hm])), ((valR).row 36).keep hstack (fun k hm => hk k (by simp [hm])), ((valR).row 36).keep hvalues (fun k hm => hk k (by simp [hm])), rfl⟩
theorem frmR_kind : FieldOf frmR (Rep.int .i64) 0 (·.kind) (fun s y => { s with kind := y }) := by
  refine ⟨by show 0 + 1 ≤ 16; omega, ?_⟩
  rintro w cs s F ⟨vlocals, vstack, vvalues, Flocals, Fstack, Fvalues, rfl, hlocals, hstack, hvalues, rfl⟩
  refine ⟨Flocals ++ Fstack ++ Fvalues, [], [], by simp, ⟨rfl, rfl⟩, fun w2 ys y G hk hy => ?_⟩
  obtain ⟨rfl, rfl⟩ := hy
  exact ⟨_, _, _, _, _, _, rfl, ((valR).row 36).keep hlocals (fun k hm => hk k (by simp [hm])), ((valR).row 36).keep hstack (fun k hm => hk k (by simp [hm])), ((valR).row 36).keep hvalues (fun k hm => hk k (by simp [hm])), by simp⟩
theorem frmR_func : FieldOf frmR (Rep.int .i64) 1 (·.func) (fun s y => { s with func := y }) := by
  refine ⟨by show 1 + 1 ≤ 16; omega, ?_⟩
  rintro w cs s F ⟨vlocals, vstack, vvalues, Flocals, Fstack, Fvalues, rfl, hlocals, hstack, hvalues, rfl⟩
  refine ⟨Flocals ++ Fstack ++ Fvalues, [], [], by simp, ⟨rfl, rfl⟩, fun w2 ys y G hk hy => ?_⟩
  obtain ⟨rfl, rfl⟩ := hy
  exact ⟨_, _, _, _, _, _, rfl, ((valR).row 36).keep hlocals (fun k hm => hk k (by simp [hm])), ((valR).row 36).keep hstack (fun k hm => hk k (by simp [hm])), ((valR).row 36).keep hvalues (fun k hm => hk k (by simp [hm])), by simp⟩
theorem frmR_pc : FieldOf frmR (Rep.int .i64) 2 (·.pc) (fun s y => { s with pc := y }) := by
  refine ⟨by show 2 + 1 ≤ 16; omega, ?_⟩
  rintro w cs s F ⟨vlocals, vstack, vvalues, Flocals, Fstack, Fvalues, rfl, hlocals, hstack, hvalues, rfl⟩
  refine ⟨Flocals ++ Fstack ++ Fvalues, [], [], by simp, ⟨rfl, rfl⟩, fun w2 ys y G hk hy => ?_⟩
  obtain ⟨rfl, rfl⟩ := hy
  exact ⟨_, _, _, _, _, _, rfl, ((valR).row 36).keep hlocals (fun k hm => hk k (by simp [hm])), ((valR).row 36).keep hstack (fun k hm => hk k (by simp [hm])), ((valR).row 36).keep hvalues (fun k hm => hk k (by simp [hm])), by simp⟩
theorem frmR_tkind : FieldOf frmR (Rep.int .i64) 3 (·.tkind) (fun s y => { s with tkind := y }) := by
  refine ⟨by show 3 + 1 ≤ 16; omega, ?_⟩
  rintro w cs s F ⟨vlocals, vstack, vvalues, Flocals, Fstack, Fvalues, rfl, hlocals, hstack, hvalues, rfl⟩
  refine ⟨Flocals ++ Fstack ++ Fvalues, [], [], by simp, ⟨rfl, rfl⟩, fun w2 ys y G hk hy => ?_⟩
  obtain ⟨rfl, rfl⟩ := hy
  exact ⟨_, _, _, _, _, _, rfl, ((valR).row 36).keep hlocals (fun k hm => hk k (by simp [hm])), ((valR).row 36).keep hstack (fun k hm => hk k (by simp [hm])), ((valR).row 36).keep hvalues (fun k hm => hk k (by simp [hm])), by simp⟩
theorem frmR_tint : FieldOf frmR (Rep.int .i64) 4 (·.tint) (fun s y => { s with tint := y }) := by
  refine ⟨by show 4 + 1 ≤ 16; omega, ?_⟩
  rintro w cs s F ⟨vlocals, vstack, vvalues, Flocals, Fstack, Fvalues, rfl, hlocals, hstack, hvalues, rfl⟩
  refine ⟨Flocals ++ Fstack ++ Fvalues, [], [], by simp, ⟨rfl, rfl⟩, fun w2 ys y G hk hy => ?_⟩
  obtain ⟨rfl, rfl⟩ := hy
  exact ⟨_, _, _, _, _, _, rfl, ((valR).row 36).keep hlocals (fun k hm => hk k (by simp [hm])), ((valR).row 36).keep hstack (fun k hm => hk k (by simp [hm])), ((valR).row 36).keep hvalues (fun k hm => hk k (by simp [hm])), by simp⟩
theorem frmR_tstr : FieldOf frmR Rep.str 5 (·.tstr) (fun s y => { s with tstr := y }) := by
  refine ⟨by show 5 + 1 ≤ 16; omega, ?_⟩
  rintro w cs s F ⟨vlocals, vstack, vvalues, Flocals, Fstack, Fvalues, rfl, hlocals, hstack, hvalues, rfl⟩
  refine ⟨Flocals ++ Fstack ++ Fvalues, [], [], by simp, ⟨rfl, rfl⟩, fun w2 ys y G hk hy => ?_⟩
  obtain ⟨rfl, rfl⟩ := hy
  exact ⟨_, _, _, _, _, _, rfl, ((valR).row 36).keep hlocals (fun k hm => hk k (by simp [hm])), ((valR).row 36).keep hstack (fun k hm => hk k (by simp [hm])), ((valR).row 36).keep hvalues (fun k hm => hk k (by simp [hm])), by simp⟩
theorem frmR_tref : FieldOf frmR (Rep.int .i64) 6 (·.tref) (fun s y => { s with tref := y }) := by
  refine ⟨by show 6 + 1 ≤ 16; omega, ?_⟩
  rintro w cs s F ⟨vlocals, vstack, vvalues, Flocals, Fstack, Fvalues, rfl, hlocals, hstack, hvalues, rfl⟩
  refine ⟨Flocals ++ Fstack ++ Fvalues, [], [], by simp, ⟨rfl, rfl⟩, fun w2 ys y G hk hy => ?_⟩
  obtain ⟨rfl, rfl⟩ := hy
  exact ⟨_, _, _, _, _, _, rfl, ((valR).row 36).keep hlocals (fun k hm => hk k (by simp [hm])), ((valR).row 36).keep hstack (fun k hm => hk k (by simp [hm])), ((valR).row 36).keep hvalues (fun k hm => hk k (by simp [hm])), by simp⟩
theorem frmR_locals : FieldOf frmR ((valR).row 36) 7 (·.locals) (fun s y => { s with locals := y }) := by
  refine ⟨by show 7 + 1 ≤ 16; omega, ?_⟩
  rintro w cs s F ⟨vlocals, vstack, vvalues, Flocals, Fstack, Fvalues, rfl, hlocals, hstack, hvalues, rfl⟩
  refine ⟨[], Flocals, Fstack ++ Fvalues, by simp, hlocals, fun w2 ys y G hk hy => ?_⟩
  obtain ⟨y0, rfl⟩ : ∃ y0, ys = [y0] := List.length_eq_one_iff.1 (((valR).row 36).len hy)
  exact ⟨_, _, _, G, Fstack, Fvalues, rfl, hy, ((valR).row 36).keep hstack (fun k hm => hk k (by simp [hm])), ((valR).row 36).keep hvalues (fun k hm => hk k (by simp [hm])), by simp⟩
theorem frmR_stack : FieldOf frmR ((valR).row 36) 8 (·.stack) (fun s y => { s with stack := y }) := by
  refine ⟨by show 8 + 1 ≤ 16; omega, ?_⟩
  rintro w cs s F ⟨vlocals, vstack, vvalues, Flocals, Fstack, Fvalues, rfl, hlocals, hstack, hvalues, rfl⟩
  refine ⟨Flocals, Fstack, Fvalues, by simp, hstack, fun w2 ys y G hk hy => ?_⟩
  obtain ⟨y0, rfl⟩ : ∃ y0, ys = [y0] := List.length_eq_one_iff.1 (((valR).row 36).len hy)
  exact ⟨_, _, _, Flocals, G, Fvalues, rfl, ((valR).row 36).keep hlocals (fun k hm => hk k (by simp [hm])), hy, ((valR).row 36).keep hvalues (fun k hm => hk k (by simp [hm])), by simp⟩
theorem frmR_env : FieldOf frmR (Rep.int .i64) 9 (·.env) (fun s y => { s with env := y }) := by
  refine ⟨by show 9 + 1 ≤ 16; omega, ?_⟩
  rintro w cs s F ⟨vlocals, vstack, vvalues, Flocals, Fstack, Fvalues, rfl, hlocals, hstack, hvalues, rfl⟩
  refine ⟨Flocals ++ Fstack ++ Fvalues, [], [], by simp, ⟨rfl, rfl⟩, fun w2 ys y G hk hy => ?_⟩
  obtain ⟨rfl, rfl⟩ := hy
  exact ⟨_, _, _, _, _, _, rfl, ((valR).row 36).keep hlocals (fun k hm => hk k (by simp [hm])), ((valR).row 36).keep hstack (fun k hm => hk k (by simp [hm])), ((valR).row 36).keep hvalues (fun k hm => hk k (by simp [hm])), by simp⟩
theorem frmR_scope : FieldOf frmR (Rep.int .i64) 10 (·.scope) (fun s y => { s with scope := y }) := by
  refine ⟨by show 10 + 1 ≤ 16; omega, ?_⟩
  rintro w cs s F ⟨vlocals, vstack, vvalues, Flocals, Fstack, Fvalues, rfl, hlocals, hstack, hvalues, rfl⟩
  refine ⟨Flocals ++ Fstack ++ Fvalues, [], [], by simp, ⟨rfl, rfl⟩, fun w2 ys y G hk hy => ?_⟩
  obtain ⟨rfl, rfl⟩ := hy
  exact ⟨_, _, _, _, _, _, rfl, ((valR).row 36).keep hlocals (fun k hm => hk k (by simp [hm])), ((valR).row 36).keep hstack (fun k hm => hk k (by simp [hm])), ((valR).row 36).keep hvalues (fun k hm => hk k (by simp [hm])), by simp⟩
theorem frmR_mode : FieldOf frmR (Rep.int .i64) 11 (·.mode) (fun s y => { s with mode := y }) := by
  refine ⟨by show 11 + 1 ≤ 16; omega, ?_⟩
  rintro w cs s F ⟨vlocals, vstack, vvalues, Flocals, Fstack, Fvalues, rfl, hlocals, hstack, hvalues, rfl⟩
  refine ⟨Flocals ++ Fstack ++ Fvalues, [], [], by simp, ⟨rfl, rfl⟩, fun w2 ys y G hk hy => ?_⟩
  obtain ⟨rfl, rfl⟩ := hy
  exact ⟨_, _, _, _, _, _, rfl, ((valR).row 36).keep hlocals (fun k hm => hk k (by simp [hm])), ((valR).row 36).keep hstack (fun k hm => hk k (by simp [hm])), ((valR).row 36).keep hvalues (fun k hm => hk k (by simp [hm])), by simp⟩
theorem frmR_object : FieldOf frmR (Rep.int .i64) 12 (·.object) (fun s y => { s with object := y }) := by
  refine ⟨by show 12 + 1 ≤ 16; omega, ?_⟩
  rintro w cs s F ⟨vlocals, vstack, vvalues, Flocals, Fstack, Fvalues, rfl, hlocals, hstack, hvalues, rfl⟩
  refine ⟨Flocals ++ Fstack ++ Fvalues, [], [], by simp, ⟨rfl, rfl⟩, fun w2 ys y G hk hy => ?_⟩
  obtain ⟨rfl, rfl⟩ := hy
  exact ⟨_, _, _, _, _, _, rfl, ((valR).row 36).keep hlocals (fun k hm => hk k (by simp [hm])), ((valR).row 36).keep hstack (fun k hm => hk k (by simp [hm])), ((valR).row 36).keep hvalues (fun k hm => hk k (by simp [hm])), by simp⟩
theorem frmR_host : FieldOf frmR (Rep.int .i64) 13 (·.host) (fun s y => { s with host := y }) := by
  refine ⟨by show 13 + 1 ≤ 16; omega, ?_⟩
  rintro w cs s F ⟨vlocals, vstack, vvalues, Flocals, Fstack, Fvalues, rfl, hlocals, hstack, hvalues, rfl⟩
  refine ⟨Flocals ++ Fstack ++ Fvalues, [], [], by simp, ⟨rfl, rfl⟩, fun w2 ys y G hk hy => ?_⟩
  obtain ⟨rfl, rfl⟩ := hy
  exact ⟨_, _, _, _, _, _, rfl, ((valR).row 36).keep hlocals (fun k hm => hk k (by simp [hm])), ((valR).row 36).keep hstack (fun k hm => hk k (by simp [hm])), ((valR).row 36).keep hvalues (fun k hm => hk k (by simp [hm])), by simp⟩
theorem frmR_phase : FieldOf frmR (Rep.int .i64) 14 (·.phase) (fun s y => { s with phase := y }) := by
  refine ⟨by show 14 + 1 ≤ 16; omega, ?_⟩
  rintro w cs s F ⟨vlocals, vstack, vvalues, Flocals, Fstack, Fvalues, rfl, hlocals, hstack, hvalues, rfl⟩
  refine ⟨Flocals ++ Fstack ++ Fvalues, [], [], by simp, ⟨rfl, rfl⟩, fun w2 ys y G hk hy => ?_⟩
  obtain ⟨rfl, rfl⟩ := hy
  exact ⟨_, _, _, _, _, _, rfl, ((valR).row 36).keep hlocals (fun k hm => hk k (by simp [hm])), ((valR).row 36).keep hstack (fun k hm => hk k (by simp [hm])), ((valR).row 36).keep hvalues (fun k hm => hk k (by simp [hm])), by simp⟩
theorem frmR_values : FieldOf frmR ((valR).row 36) 15 (·.values) (fun s y => { s with values := y }) := by
  refine ⟨by show 15 + 1 ≤ 16; omega, ?_⟩
  rintro w cs s F ⟨vlocals, vstack, vvalues, Flocals, Fstack, Fvalues, rfl, hlocals, hstack, hvalues, rfl⟩
  refine ⟨Flocals ++ Fstack, Fvalues, [], by simp, hvalues, fun w2 ys y G hk hy => ?_⟩
  obtain ⟨y0, rfl⟩ : ∃ y0, ys = [y0] := List.length_eq_one_iff.1 (((valR).row 36).len hy)
  exact ⟨_, _, _, Flocals, Fstack, G, rfl, ((valR).row 36).keep hlocals (fun k hm => hk k (by simp [hm])), ((valR).row 36).keep hstack (fun k hm => hk k (by simp [hm])), hy, by simp⟩
structure Obj where
  kind : Int
  proto : Int
  props : List Prp
  elems : List Val
  data : List Val
  code : Int
  env : Int
  cls : Int
  ref : Int
  saved : List Frm
def Obj.Own (w : World) (cs : List Value) (s : Obj) (F : List Nat) : Prop :=
  ∃ vprops velems vdata vsaved, ∃ Fprops Felems Fdata Fsaved, cs = [.int .i64 s.kind, .int .i64 s.proto, vprops, velems, vdata, .int .i64 s.code, .int .i64 s.env, .int .i64 s.cls, .int .i64 s.ref, vsaved] ∧ ((propR).row 86).own w [vprops] s.props Fprops ∧ ((valR).row 36).own w [velems] s.elems Felems ∧ ((valR).row 36).own w [vdata] s.data Fdata ∧ ((frmR).row 164).own w [vsaved] s.saved Fsaved ∧ F = Fprops ++ Felems ++ Fdata ++ Fsaved
def objR : Rep Obj where
  n := 10
  own := Obj.Own
  len := by rintro w cs s F ⟨vprops, velems, vdata, vsaved, Fprops, Felems, Fdata, Fsaved, rfl, hprops, helems, hdata, hsaved, rfl⟩; rfl
  lt := by
    rintro w cs s F ⟨vprops, velems, vdata, vsaved, Fprops, Felems, Fdata, Fsaved, rfl, hprops, helems, hdata, hsaved, rfl⟩ k hk
    simp only [List.mem_append] at hk
    rcases hk with ((hk | hk) | hk) | hk
    · exact ((propR).row 86).lt hprops k hk
    · exact ((valR).row 36).lt helems k hk
    · exact ((valR).row 36).lt hdata k hk
    · exact ((frmR).row 164).lt hsaved k hk
  keep := by
    rintro w w2 cs s F ⟨vprops, velems, vdata, vsaved, Fprops, Felems, Fdata, Fsaved, rfl, hprops, helems, hdata, hsaved, rfl⟩ hk
    exact ⟨_, _, _, _, _, _, _, _, rfl, ((propR).row 86).keep hprops (fun k hm => hk k (by simp [hm])), ((valR).row 36).keep helems (fun k hm => hk k (by simp [hm])), ((valR).row 36).keep hdata (fun k hm => hk k (by simp [hm])), ((frmR).row 164).keep hsaved (fun k hm => hk k (by simp [hm])), rfl⟩
theorem objR_kind : FieldOf objR (Rep.int .i64) 0 (·.kind) (fun s y => { s with kind := y }) := by
  refine ⟨by show 0 + 1 ≤ 10; omega, ?_⟩
  rintro w cs s F ⟨vprops, velems, vdata, vsaved, Fprops, Felems, Fdata, Fsaved, rfl, hprops, helems, hdata, hsaved, rfl⟩
  refine ⟨Fprops ++ Felems ++ Fdata ++ Fsaved, [], [], by simp, ⟨rfl, rfl⟩, fun w2 ys y G hk hy => ?_⟩
  obtain ⟨rfl, rfl⟩ := hy
  exact ⟨_, _, _, _, _, _, _, _, rfl, ((propR).row 86).keep hprops (fun k hm => hk k (by simp [hm])), ((valR).row 36).keep helems (fun k hm => hk k (by simp [hm])), ((valR).row 36).keep hdata (fun k hm => hk k (by simp [hm])), ((frmR).row 164).keep hsaved (fun k hm => hk k (by simp [hm])), by simp⟩
theorem objR_proto : FieldOf objR (Rep.int .i64) 1 (·.proto) (fun s y => { s with proto := y }) := by
  refine ⟨by show 1 + 1 ≤ 10; omega, ?_⟩
  rintro w cs s F ⟨vprops, velems, vdata, vsaved, Fprops, Felems, Fdata, Fsaved, rfl, hprops, helems, hdata, hsaved, rfl⟩
  refine ⟨Fprops ++ Felems ++ Fdata ++ Fsaved, [], [], by simp, ⟨rfl, rfl⟩, fun w2 ys y G hk hy => ?_⟩
  obtain ⟨rfl, rfl⟩ := hy
  exact ⟨_, _, _, _, _, _, _, _, rfl, ((propR).row 86).keep hprops (fun k hm => hk k (by simp [hm])), ((valR).row 36).keep helems (fun k hm => hk k (by simp [hm])), ((valR).row 36).keep hdata (fun k hm => hk k (by simp [hm])), ((frmR).row 164).keep hsaved (fun k hm => hk k (by simp [hm])), by simp⟩
theorem objR_props : FieldOf objR ((propR).row 86) 2 (·.props) (fun s y => { s with props := y }) := by
  refine ⟨by show 2 + 1 ≤ 10; omega, ?_⟩
  rintro w cs s F ⟨vprops, velems, vdata, vsaved, Fprops, Felems, Fdata, Fsaved, rfl, hprops, helems, hdata, hsaved, rfl⟩
  refine ⟨[], Fprops, Felems ++ Fdata ++ Fsaved, by simp, hprops, fun w2 ys y G hk hy => ?_⟩
  obtain ⟨y0, rfl⟩ : ∃ y0, ys = [y0] := List.length_eq_one_iff.1 (((propR).row 86).len hy)
  exact ⟨_, _, _, _, G, Felems, Fdata, Fsaved, rfl, hy, ((valR).row 36).keep helems (fun k hm => hk k (by simp [hm])), ((valR).row 36).keep hdata (fun k hm => hk k (by simp [hm])), ((frmR).row 164).keep hsaved (fun k hm => hk k (by simp [hm])), by simp⟩
theorem objR_elems : FieldOf objR ((valR).row 36) 3 (·.elems) (fun s y => { s with elems := y }) := by
  refine ⟨by show 3 + 1 ≤ 10; omega, ?_⟩
  rintro w cs s F ⟨vprops, velems, vdata, vsaved, Fprops, Felems, Fdata, Fsaved, rfl, hprops, helems, hdata, hsaved, rfl⟩
  refine ⟨Fprops, Felems, Fdata ++ Fsaved, by simp, helems, fun w2 ys y G hk hy => ?_⟩
  obtain ⟨y0, rfl⟩ : ∃ y0, ys = [y0] := List.length_eq_one_iff.1 (((valR).row 36).len hy)
  exact ⟨_, _, _, _, Fprops, G, Fdata, Fsaved, rfl, ((propR).row 86).keep hprops (fun k hm => hk k (by simp [hm])), hy, ((valR).row 36).keep hdata (fun k hm => hk k (by simp [hm])), ((frmR).row 164).keep hsaved (fun k hm => hk k (by simp [hm])), by simp⟩
theorem objR_data : FieldOf objR ((valR).row 36) 4 (·.data) (fun s y => { s with data := y }) := by
  refine ⟨by show 4 + 1 ≤ 10; omega, ?_⟩
  rintro w cs s F ⟨vprops, velems, vdata, vsaved, Fprops, Felems, Fdata, Fsaved, rfl, hprops, helems, hdata, hsaved, rfl⟩
  refine ⟨Fprops ++ Felems, Fdata, Fsaved, by simp, hdata, fun w2 ys y G hk hy => ?_⟩
  obtain ⟨y0, rfl⟩ : ∃ y0, ys = [y0] := List.length_eq_one_iff.1 (((valR).row 36).len hy)
  exact ⟨_, _, _, _, Fprops, Felems, G, Fsaved, rfl, ((propR).row 86).keep hprops (fun k hm => hk k (by simp [hm])), ((valR).row 36).keep helems (fun k hm => hk k (by simp [hm])), hy, ((frmR).row 164).keep hsaved (fun k hm => hk k (by simp [hm])), by simp⟩
theorem objR_code : FieldOf objR (Rep.int .i64) 5 (·.code) (fun s y => { s with code := y }) := by
  refine ⟨by show 5 + 1 ≤ 10; omega, ?_⟩
  rintro w cs s F ⟨vprops, velems, vdata, vsaved, Fprops, Felems, Fdata, Fsaved, rfl, hprops, helems, hdata, hsaved, rfl⟩
  refine ⟨Fprops ++ Felems ++ Fdata ++ Fsaved, [], [], by simp, ⟨rfl, rfl⟩, fun w2 ys y G hk hy => ?_⟩
  obtain ⟨rfl, rfl⟩ := hy
  exact ⟨_, _, _, _, _, _, _, _, rfl, ((propR).row 86).keep hprops (fun k hm => hk k (by simp [hm])), ((valR).row 36).keep helems (fun k hm => hk k (by simp [hm])), ((valR).row 36).keep hdata (fun k hm => hk k (by simp [hm])), ((frmR).row 164).keep hsaved (fun k hm => hk k (by simp [hm])), by simp⟩
theorem objR_env : FieldOf objR (Rep.int .i64) 6 (·.env) (fun s y => { s with env := y }) := by
  refine ⟨by show 6 + 1 ≤ 10; omega, ?_⟩
  rintro w cs s F ⟨vprops, velems, vdata, vsaved, Fprops, Felems, Fdata, Fsaved, rfl, hprops, helems, hdata, hsaved, rfl⟩
  refine ⟨Fprops ++ Felems ++ Fdata ++ Fsaved, [], [], by simp, ⟨rfl, rfl⟩, fun w2 ys y G hk hy => ?_⟩
  obtain ⟨rfl, rfl⟩ := hy
  exact ⟨_, _, _, _, _, _, _, _, rfl, ((propR).row 86).keep hprops (fun k hm => hk k (by simp [hm])), ((valR).row 36).keep helems (fun k hm => hk k (by simp [hm])), ((valR).row 36).keep hdata (fun k hm => hk k (by simp [hm])), ((frmR).row 164).keep hsaved (fun k hm => hk k (by simp [hm])), by simp⟩
theorem objR_cls : FieldOf objR (Rep.int .i64) 7 (·.cls) (fun s y => { s with cls := y }) := by
  refine ⟨by show 7 + 1 ≤ 10; omega, ?_⟩
  rintro w cs s F ⟨vprops, velems, vdata, vsaved, Fprops, Felems, Fdata, Fsaved, rfl, hprops, helems, hdata, hsaved, rfl⟩
  refine ⟨Fprops ++ Felems ++ Fdata ++ Fsaved, [], [], by simp, ⟨rfl, rfl⟩, fun w2 ys y G hk hy => ?_⟩
  obtain ⟨rfl, rfl⟩ := hy
  exact ⟨_, _, _, _, _, _, _, _, rfl, ((propR).row 86).keep hprops (fun k hm => hk k (by simp [hm])), ((valR).row 36).keep helems (fun k hm => hk k (by simp [hm])), ((valR).row 36).keep hdata (fun k hm => hk k (by simp [hm])), ((frmR).row 164).keep hsaved (fun k hm => hk k (by simp [hm])), by simp⟩
theorem objR_ref : FieldOf objR (Rep.int .i64) 8 (·.ref) (fun s y => { s with ref := y }) := by
  refine ⟨by show 8 + 1 ≤ 10; omega, ?_⟩
  rintro w cs s F ⟨vprops, velems, vdata, vsaved, Fprops, Felems, Fdata, Fsaved, rfl, hprops, helems, hdata, hsaved, rfl⟩
  refine ⟨Fprops ++ Felems ++ Fdata ++ Fsaved, [], [], by simp, ⟨rfl, rfl⟩, fun w2 ys y G hk hy => ?_⟩
  obtain ⟨rfl, rfl⟩ := hy
  exact ⟨_, _, _, _, _, _, _, _, rfl, ((propR).row 86).keep hprops (fun k hm => hk k (by simp [hm])), ((valR).row 36).keep helems (fun k hm => hk k (by simp [hm])), ((valR).row 36).keep hdata (fun k hm => hk k (by simp [hm])), ((frmR).row 164).keep hsaved (fun k hm => hk k (by simp [hm])), by simp⟩
theorem objR_saved : FieldOf objR ((frmR).row 164) 9 (·.saved) (fun s y => { s with saved := y }) := by
  refine ⟨by show 9 + 1 ≤ 10; omega, ?_⟩
  rintro w cs s F ⟨vprops, velems, vdata, vsaved, Fprops, Felems, Fdata, Fsaved, rfl, hprops, helems, hdata, hsaved, rfl⟩
  refine ⟨Fprops ++ Felems ++ Fdata, Fsaved, [], by simp, hsaved, fun w2 ys y G hk hy => ?_⟩
  obtain ⟨y0, rfl⟩ : ∃ y0, ys = [y0] := List.length_eq_one_iff.1 (((frmR).row 164).len hy)
  exact ⟨_, _, _, _, Fprops, Felems, Fdata, G, rfl, ((propR).row 86).keep hprops (fun k hm => hk k (by simp [hm])), ((valR).row 36).keep helems (fun k hm => hk k (by simp [hm])), ((valR).row 36).keep hdata (fun k hm => hk k (by simp [hm])), hy, by simp⟩
structure Slt where
  used : Bool
  obj : Obj
def Slt.Own (w : World) (cs : List Value) (s : Slt) (F : List Nat) : Prop := ∃ xs, cs = .bool s.used :: xs ∧ objR.own w xs s.obj F
def sltR : Rep Slt where
  n := 11
  own := Slt.Own
  len := by rintro w cs s F ⟨xs, rfl, h⟩; rw [List.length_cons, objR.len h]; rfl
  lt := by rintro w cs s F ⟨xs, rfl, h⟩; exact objR.lt h
  keep := by rintro w w2 cs s F ⟨xs, rfl, h⟩ hk; exact ⟨xs, rfl, objR.keep h hk⟩
theorem sltR_used : FieldOf sltR Rep.bool 0 (·.used) (fun s y => { s with used := y }) := by
  refine ⟨by show 0 + 1 ≤ 11; omega, ?_⟩
  rintro w cs s F ⟨xs, rfl, h⟩
  refine ⟨F, [], [], by simp, ⟨rfl, rfl⟩, fun w2 ys y G hk hy => ?_⟩
  obtain ⟨rfl, rfl⟩ := hy
  rw [List.append_nil, List.append_nil]
  exact ⟨xs, rfl, objR.keep h (fun k hm => hk k (by simp [hm]))⟩
theorem sltR_obj : FieldOf sltR objR 1 (·.obj) (fun s y => { s with obj := y }) := by
  refine ⟨by show 1 + 10 ≤ 11; omega, ?_⟩
  rintro w cs s F ⟨xs, rfl, h⟩
  have hl : xs.length = 10 := objR.len h
  refine ⟨[], F, [], by simp, ?_, fun w2 ys y G hk hy => ?_⟩
  · show objR.own w (xs.take 10) s.obj F
    rw [List.take_of_length_le (by omega)]
    exact h
  · have hd : (Value.bool s.used :: xs).drop (1 + objR.n) = [] := by
      show xs.drop 10 = []
      exact List.drop_of_length_le (by omega)
    rw [hd]
    refine ⟨ys, by simp, by simpa using hy⟩
structure Hp where
  base : Int
  stride : Int
  slots : List Slt
  free : List Int
  live : Int
  global : Int
  texts : Int
  protos : List Int
def Hp.Own (w : World) (cs : List Value) (s : Hp) (F : List Nat) : Prop :=
  ∃ vslots vfree vprotos, ∃ Fslots Ffree Fprotos, cs = [.int .i64 s.base, .int .i64 s.stride, vslots, vfree, .int .i64 s.live, .int .i64 s.global, .int .i64 s.texts, vprotos] ∧ ((sltR).row 91).own w [vslots] s.slots Fslots ∧ ((Rep.int .i64).row 3).own w [vfree] s.free Ffree ∧ ((Rep.int .i64).row 3).own w [vprotos] s.protos Fprotos ∧ F = Fslots ++ Ffree ++ Fprotos
def hpR : Rep Hp where
  n := 8
  own := Hp.Own
  len := by rintro w cs s F ⟨vslots, vfree, vprotos, Fslots, Ffree, Fprotos, rfl, hslots, hfree, hprotos, rfl⟩; rfl
  lt := by
    rintro w cs s F ⟨vslots, vfree, vprotos, Fslots, Ffree, Fprotos, rfl, hslots, hfree, hprotos, rfl⟩ k hk
    simp only [List.mem_append] at hk
    rcases hk with (hk | hk) | hk
    · exact ((sltR).row 91).lt hslots k hk
    · exact ((Rep.int .i64).row 3).lt hfree k hk
    · exact ((Rep.int .i64).row 3).lt hprotos k hk
  keep := by
    rintro w w2 cs s F ⟨vslots, vfree, vprotos, Fslots, Ffree, Fprotos, rfl, hslots, hfree, hprotos, rfl⟩ hk
    exact ⟨_, _, _, _, _, _, rfl, ((sltR).row 91).keep hslots (fun k hm => hk k (by simp [hm])), ((Rep.int .i64).row 3).keep hfree (fun k hm => hk k (by simp [hm])), ((Rep.int .i64).row 3).keep hprotos (fun k hm => hk k (by simp [hm])), rfl⟩
theorem hpR_base : FieldOf hpR (Rep.int .i64) 0 (·.base) (fun s y => { s with base := y }) := by
  refine ⟨by show 0 + 1 ≤ 8; omega, ?_⟩
  rintro w cs s F ⟨vslots, vfree, vprotos, Fslots, Ffree, Fprotos, rfl, hslots, hfree, hprotos, rfl⟩
  refine ⟨Fslots ++ Ffree ++ Fprotos, [], [], by simp, ⟨rfl, rfl⟩, fun w2 ys y G hk hy => ?_⟩
  obtain ⟨rfl, rfl⟩ := hy
  exact ⟨_, _, _, _, _, _, rfl, ((sltR).row 91).keep hslots (fun k hm => hk k (by simp [hm])), ((Rep.int .i64).row 3).keep hfree (fun k hm => hk k (by simp [hm])), ((Rep.int .i64).row 3).keep hprotos (fun k hm => hk k (by simp [hm])), by simp⟩
theorem hpR_stride : FieldOf hpR (Rep.int .i64) 1 (·.stride) (fun s y => { s with stride := y }) := by
  refine ⟨by show 1 + 1 ≤ 8; omega, ?_⟩
  rintro w cs s F ⟨vslots, vfree, vprotos, Fslots, Ffree, Fprotos, rfl, hslots, hfree, hprotos, rfl⟩
  refine ⟨Fslots ++ Ffree ++ Fprotos, [], [], by simp, ⟨rfl, rfl⟩, fun w2 ys y G hk hy => ?_⟩
  obtain ⟨rfl, rfl⟩ := hy
  exact ⟨_, _, _, _, _, _, rfl, ((sltR).row 91).keep hslots (fun k hm => hk k (by simp [hm])), ((Rep.int .i64).row 3).keep hfree (fun k hm => hk k (by simp [hm])), ((Rep.int .i64).row 3).keep hprotos (fun k hm => hk k (by simp [hm])), by simp⟩
theorem hpR_slots : FieldOf hpR ((sltR).row 91) 2 (·.slots) (fun s y => { s with slots := y }) := by
  refine ⟨by show 2 + 1 ≤ 8; omega, ?_⟩
  rintro w cs s F ⟨vslots, vfree, vprotos, Fslots, Ffree, Fprotos, rfl, hslots, hfree, hprotos, rfl⟩
  refine ⟨[], Fslots, Ffree ++ Fprotos, by simp, hslots, fun w2 ys y G hk hy => ?_⟩
  obtain ⟨y0, rfl⟩ : ∃ y0, ys = [y0] := List.length_eq_one_iff.1 (((sltR).row 91).len hy)
  exact ⟨_, _, _, G, Ffree, Fprotos, rfl, hy, ((Rep.int .i64).row 3).keep hfree (fun k hm => hk k (by simp [hm])), ((Rep.int .i64).row 3).keep hprotos (fun k hm => hk k (by simp [hm])), by simp⟩
theorem hpR_free : FieldOf hpR ((Rep.int .i64).row 3) 3 (·.free) (fun s y => { s with free := y }) := by
  refine ⟨by show 3 + 1 ≤ 8; omega, ?_⟩
  rintro w cs s F ⟨vslots, vfree, vprotos, Fslots, Ffree, Fprotos, rfl, hslots, hfree, hprotos, rfl⟩
  refine ⟨Fslots, Ffree, Fprotos, by simp, hfree, fun w2 ys y G hk hy => ?_⟩
  obtain ⟨y0, rfl⟩ : ∃ y0, ys = [y0] := List.length_eq_one_iff.1 (((Rep.int .i64).row 3).len hy)
  exact ⟨_, _, _, Fslots, G, Fprotos, rfl, ((sltR).row 91).keep hslots (fun k hm => hk k (by simp [hm])), hy, ((Rep.int .i64).row 3).keep hprotos (fun k hm => hk k (by simp [hm])), by simp⟩
theorem hpR_live : FieldOf hpR (Rep.int .i64) 4 (·.live) (fun s y => { s with live := y }) := by
  refine ⟨by show 4 + 1 ≤ 8; omega, ?_⟩
  rintro w cs s F ⟨vslots, vfree, vprotos, Fslots, Ffree, Fprotos, rfl, hslots, hfree, hprotos, rfl⟩
  refine ⟨Fslots ++ Ffree ++ Fprotos, [], [], by simp, ⟨rfl, rfl⟩, fun w2 ys y G hk hy => ?_⟩
  obtain ⟨rfl, rfl⟩ := hy
  exact ⟨_, _, _, _, _, _, rfl, ((sltR).row 91).keep hslots (fun k hm => hk k (by simp [hm])), ((Rep.int .i64).row 3).keep hfree (fun k hm => hk k (by simp [hm])), ((Rep.int .i64).row 3).keep hprotos (fun k hm => hk k (by simp [hm])), by simp⟩
theorem hpR_global : FieldOf hpR (Rep.int .i64) 5 (·.global) (fun s y => { s with global := y }) := by
  refine ⟨by show 5 + 1 ≤ 8; omega, ?_⟩
  rintro w cs s F ⟨vslots, vfree, vprotos, Fslots, Ffree, Fprotos, rfl, hslots, hfree, hprotos, rfl⟩
  refine ⟨Fslots ++ Ffree ++ Fprotos, [], [], by simp, ⟨rfl, rfl⟩, fun w2 ys y G hk hy => ?_⟩
  obtain ⟨rfl, rfl⟩ := hy
  exact ⟨_, _, _, _, _, _, rfl, ((sltR).row 91).keep hslots (fun k hm => hk k (by simp [hm])), ((Rep.int .i64).row 3).keep hfree (fun k hm => hk k (by simp [hm])), ((Rep.int .i64).row 3).keep hprotos (fun k hm => hk k (by simp [hm])), by simp⟩
theorem hpR_texts : FieldOf hpR (Rep.int .i64) 6 (·.texts) (fun s y => { s with texts := y }) := by
  refine ⟨by show 6 + 1 ≤ 8; omega, ?_⟩
  rintro w cs s F ⟨vslots, vfree, vprotos, Fslots, Ffree, Fprotos, rfl, hslots, hfree, hprotos, rfl⟩
  refine ⟨Fslots ++ Ffree ++ Fprotos, [], [], by simp, ⟨rfl, rfl⟩, fun w2 ys y G hk hy => ?_⟩
  obtain ⟨rfl, rfl⟩ := hy
  exact ⟨_, _, _, _, _, _, rfl, ((sltR).row 91).keep hslots (fun k hm => hk k (by simp [hm])), ((Rep.int .i64).row 3).keep hfree (fun k hm => hk k (by simp [hm])), ((Rep.int .i64).row 3).keep hprotos (fun k hm => hk k (by simp [hm])), by simp⟩
theorem hpR_protos : FieldOf hpR ((Rep.int .i64).row 3) 7 (·.protos) (fun s y => { s with protos := y }) := by
  refine ⟨by show 7 + 1 ≤ 8; omega, ?_⟩
  rintro w cs s F ⟨vslots, vfree, vprotos, Fslots, Ffree, Fprotos, rfl, hslots, hfree, hprotos, rfl⟩
  refine ⟨Fslots ++ Ffree, Fprotos, [], by simp, hprotos, fun w2 ys y G hk hy => ?_⟩
  obtain ⟨y0, rfl⟩ : ∃ y0, ys = [y0] := List.length_eq_one_iff.1 (((Rep.int .i64).row 3).len hy)
  exact ⟨_, _, _, Fslots, Ffree, G, rfl, ((sltR).row 91).keep hslots (fun k hm => hk k (by simp [hm])), ((Rep.int .i64).row 3).keep hfree (fun k hm => hk k (by simp [hm])), hy, by simp⟩

/-- The value of a property; what an object refers to by this. -/
def Prp.val (p : Prp) : Val := ⟨p.vkind, p.vint, p.vstr, p.vref⟩
def Frm.this (f : Frm) : Val := ⟨f.tkind, f.tint, f.tstr, f.tref⟩
end Go.Proofs.YtjianickjahdnaaDoor
namespace Go.Proofs.YtjianickjahdnaaDoor
open Go.RowKit
set_option linter.unusedVariables false
set_option linter.unusedSimpArgs false

def normB (x : Int) : Int := min (max x 1) 1000
theorem normB_in (x : Int) : 1 ≤ normB x ∧ normB x ≤ 1000 := by unfold normB; omega

theorem ret_salt {a a' s s' : Int} (h1 : a = a') (h2 : s = s') : Ending.returned (.agg #[.int .i64 a, .int .i64 s]) = .returned (.agg #[.int .i64 a', .int .i64 s']) := by rw [h1, h2]

set_option maxHeartbeats 800000 in
set_option maxRecDepth 100000 in
theorem norm_any (a s : Int) (w : World) :
    Calls Tryd.prog 50 #[.agg #[.int .i64 a, .int .i64 s]] w fun e w' => e = .returned (.agg #[.int .i64 (normB a), .int .i64 (normB s)]) ∧ Chg (fun _ => False) w w' := by
  have h1 := Chg.alloc (fun _ => False) w (.cells #[.int .i64 a, .int .i64 s] 24)
  have b1 := alloc_block w (.cells #[.int .i64 a, .int .i64 s] 24)
  unfold normB
  go_enter Tryd.func50, Tryd.ntmps50
  go_wp2_with fail
  all_goals (
    refine bodyPost_ret (results_cell_row rfl _ _ (w.heap.size + 1) _ _ _ _ (by rfl) (heap_alloc2_new _ _ _) Tryd.underlying24 rfl (by kernel_rfl)) rfl ?_
    exact ⟨ret_salt (by omega) (by omega), h1.allocR _⟩)
def handleM (a s i : Int) : Int := if i < 0 ∨ 2147483647 < i then 0 else normB a + normB s * i
def indexM (a s h : Int) : Int := if h < normB a ∨ (h - normB a) % normB s ≠ 0 ∨ 2147483647 < (h - normB a) / normB s then -1 else (h - normB a) / normB s

set_option maxHeartbeats 800000 in
set_option maxRecDepth 100000 in
theorem handle_any (a s i : Int) (w : World) (hi : -9223372036854775808 ≤ i ∧ i ≤ 9223372036854775807) :
    Calls Tryd.prog 34 #[.agg #[.int .i64 a, .int .i64 s], .int .i64 i] w fun e w' => e = .returned (.int .i64 (handleM a s i)) ∧ Chg (fun _ => False) w w' := by
  have h1 := Chg.alloc (fun _ => False) w (.cells #[.int .i64 a, .int .i64 s] 24)
  have b1 := alloc_block w (.cells #[.int .i64 a, .int .i64 s] 24)
  have hN := norm_any a s (w.alloc (.cells #[.int .i64 a, .int .i64 s] 24))
  obtain ⟨n1, n2⟩ := normB_in a
  obtain ⟨n3, n4⟩ := normB_in s
  unfold handleM
  generalize normB a = na at *
  generalize normB s = ns at *
  have HNN := Lib.hid hN
  have H1 := Lib.hid h1
  clear hN h1
  by_cases h : i < 0 ∨ 2147483647 < i
  · rw [if_pos h]
    by_cases h2 : i < 0
    · go_enter Tryd.func34, Tryd.ntmps34
      go_wp2_with fail
      go_ret
      exact ⟨rfl, H1.out⟩
    · have h3 : 2147483647 < i := by omega
      clear h
      go_enter Tryd.func34, Tryd.ntmps34
      go_wp2_with fail
      go_ret
      exact ⟨rfl, H1.out⟩
  · rw [if_neg h]
    have h2 : ¬ i < 0 := by omega
    have h3 : ¬ 2147483647 < i := by omega
    have p0 : 0 ≤ ns * i := Int.mul_nonneg (by omega) (by omega)
    have p1 : ns * i ≤ 1000 * 2147483647 := Int.mul_le_mul n4 (by omega) (by omega) (by omega)
    have w1 : IntKind.i64.wrap (ns * i) = ns * i := IntWalk.i64_in _ (by omega)
    have w2 : IntKind.i64.wrap (na + ns * i) = na + ns * i := IntWalk.i64_in _ (by omega)
    clear h p0 p1 hi n1 n2 n3 n4
    go_enter Tryd.func34, Tryd.ntmps34
    go_wp2_with fail
    refine HNN.out.mono ?_
    rintro e w2 ⟨rfl, hc2⟩
    have HC2 := Lib.hid (H1.out.trans' hc2)
    clear hc2 b1
    go_wp2_with fail
    go_ret
    exact ⟨rfl, HC2.out.allocR _⟩

set_option maxHeartbeats 1600000 in
set_option maxRecDepth 100000 in
theorem index_any (a s h : Int) (w : World) (hi : -9223372036854775808 ≤ h ∧ h ≤ 9223372036854775807) :
    Calls Tryd.prog 71 #[.agg #[.int .i64 a, .int .i64 s], .int .i64 h] w fun e w' => e = .returned (.int .i64 (indexM a s h)) ∧ Chg (fun _ => False) w w' := by
  have h1 := Chg.alloc (fun _ => False) w (.cells #[.int .i64 a, .int .i64 s] 24)
  have hN := norm_any a s (w.alloc (.cells #[.int .i64 a, .int .i64 s] 24))
  obtain ⟨n1, n2⟩ := normB_in a
  obtain ⟨n3, n4⟩ := normB_in s
  unfold indexM
  generalize normB a = na at *
  generalize normB s = ns at *
  have HNN := Lib.hid hN
  have H1 := Lib.hid h1
  clear hN h1
  by_cases c1 : h < na
  · rw [if_pos (.inl c1)]
    clear n1 n2 n3 n4 hi
    go_enter Tryd.func71, Tryd.ntmps71
    go_wp2_with fail
    refine HNN.out.mono ?_
    rintro e w2 ⟨rfl, hc2⟩
    have HC2 := Lib.hid (H1.out.trans' hc2)
    clear hc2
    go_wp2_with fail
    go_ret
    exact ⟨rfl, HC2.out.allocR _⟩
  have hs : IntKind.i64.wrap (h - na) = h - na := IntWalk.i64_in _ (by omega)
  have d0 : 0 ≤ h - na := by omega
  have z0 : (ns == 0) = false := by simp; omega
  have e1 : (h - na).tmod ns = (h - na) % ns := Int.tmod_eq_emod_of_nonneg d0
  have e2 : (h - na).tdiv ns = (h - na) / ns := Int.tdiv_eq_ediv_of_nonneg d0
  have m1 := Int.emod_nonneg (h - na) (show ns ≠ 0 by omega)
  have m2 := Int.emod_lt_of_pos (h - na) (show 0 < ns by omega)
  have q1 : 0 ≤ (h - na) / ns := Int.ediv_nonneg d0 (by omega)
  have q2 : (h - na) / ns ≤ h - na := Int.ediv_le_self _ d0
  have ns0 : 0 < ns := by omega
  generalize hr : (h - na) % ns = r at *
  generalize hq : (h - na) / ns = q at *
  have wq : wrap64 q = q := IntWalk.wrap64_in q (by omega)
  clear n1 n2 n4 m2
  by_cases c2 : r = 0
  · by_cases c3 : 2147483647 < q
    · rw [if_pos (.inr (.inr c3))]
      have t1 : (r != 0) = false := by simpa using c2
      go_enter Tryd.func71, Tryd.ntmps71
      go_wp2_with fail
      refine HNN.out.mono ?_
      rintro e w2 ⟨rfl, hc2⟩
      have HC2 := Lib.hid (H1.out.trans' hc2)
      clear hc2
      go_wp2_with fail
      go_ret
      exact ⟨rfl, HC2.out.allocR _⟩
    · rw [if_neg (by omega)]
      have t1 : (r != 0) = false := by simpa using c2
      go_enter Tryd.func71, Tryd.ntmps71
      go_wp2_with fail
      refine HNN.out.mono ?_
      rintro e w2 ⟨rfl, hc2⟩
      have HC2 := Lib.hid (H1.out.trans' hc2)
      clear hc2
      go_wp2_with fail
      go_ret
      exact ⟨rfl, HC2.out.allocR _⟩
  · rw [if_pos (.inr (.inl c2))]
    have t1 : (r != 0) = true := by simpa using c2
    go_enter Tryd.func71, Tryd.ntmps71
    go_wp2_with fail
    refine HNN.out.mono ?_
    rintro e w2 ⟨rfl, hc2⟩
    have HC2 := Lib.hid (H1.out.trans' hc2)
    clear hc2
    go_wp2_with fail
    go_ret
    exact ⟨rfl, HC2.out.allocR _⟩
end Go.Proofs.YtjianickjahdnaaDoor
namespace Go.Proofs.YtjianickjahdnaaDoor
open Go.RowKit
set_option linter.unusedVariables false
set_option linter.unusedSimpArgs false

def noSlt : Slt := ⟨false, ⟨0, 0, [], [], [], 0, 0, 0, 0, []⟩⟩
/-- The slot of a handle, if it is used. -/
def slotOf (hp : Hp) (h : Int) : Option Nat :=
  if 0 ≤ indexM hp.base hp.stride h ∧ (indexM hp.base hp.stride h).toNat < hp.slots.length ∧ (hp.slots.getD (indexM hp.base hp.stride h).toNat noSlt).used = true then some (indexM hp.base hp.stride h).toNat else none
theorem hpCells {w : World} {b o : Nat} {hp : Hp} {F : List Nat} (H : Here hpR w b o hp F) : w.cell? ⟨b, o, none⟩ = some (.int .i64 hp.base) ∧ w.cell? ⟨b, o + 1, none⟩ = some (.int .i64 hp.stride) ∧ (∃ a cap, w.cell? ⟨b, o + 2, none⟩ = some (.slice a hp.slots.length cap)) ∧ (∃ a cap, w.cell? ⟨b, o + 3, none⟩ = some (.slice a hp.free.length cap)) ∧ w.cell? ⟨b, o + 4, none⟩ = some (.int .i64 hp.live) ∧ w.cell? ⟨b, o + 5, none⟩ = some (.int .i64 hp.global) ∧ w.cell? ⟨b, o + 6, none⟩ = some (.int .i64 hp.texts) ∧ ∃ a cap, w.cell? ⟨b, o + 7, none⟩ = some (.slice a hp.protos.length cap) := by
  obtain ⟨cs, ⟨v1, v2, v3, F1, F2, F3, rfl, h1, h2, h3, -⟩, hc⟩ := H.cell
  obtain ⟨xs, Fs, op1⟩ := Rep.opened h1
  obtain ⟨a1, c1, rfl, -, -⟩ := op1.val
  obtain ⟨xs, Fs, op2⟩ := Rep.opened h2
  obtain ⟨a2, c2, rfl, -, -⟩ := op2.val
  obtain ⟨xs, Fs, op3⟩ := Rep.opened h3
  obtain ⟨a3, c3, rfl, -, -⟩ := op3.val
  exact ⟨hc 0 _ rfl, hc 1 _ rfl, ⟨_, _, hc 2 _ rfl⟩, ⟨_, _, hc 3 _ rfl⟩, hc 4 _ rfl, hc 5 _ rfl, hc 6 _ rfl, ⟨_, _, hc 7 _ rfl⟩⟩
/-- A slot in memory. -/
theorem hpSlot {w : World} {b o : Nat} {hp : Hp} {F : List Nat} {a : Option Addr} {m cap i : Nat} (H : Here hpR w b o hp F) (hv : w.cell? ⟨b, o + 2, none⟩ = some (.slice a m cap)) (hi : i < hp.slots.length) :
    ∃ g off, a = some ⟨g, off, none⟩ ∧ ∃ G, Here sltR w g (off + i * 11) hp.slots[i] G ∧ w.cell? ⟨g, off + i * 11, none⟩ = some (.bool hp.slots[i].used) ∧ g ≠ b ∧ b ∉ G ∧ (∀ x ∈ G, x ∈ F) ∧
      ∀ w' y G', Here sltR w' g (off + i * 11) y G' → Step w w' g (off + i * 11) 11 G G' → Post hpR w b o { hp with slots := hp.slots.set i y } F w' ∧ ∀ j u, w.cell? ⟨b, j, none⟩ = some u → w'.cell? ⟨b, j, none⟩ = some u := by
  obtain ⟨g, off, cap', h1⟩ := H.rowAt hpR_slots (by show 0 < 8; decide) (by omega)
  rw [hv] at h1
  cases h1
  obtain ⟨G, h2, h3, h4, h5, h6⟩ := H.rowElem hpR_slots (by show 0 < 8; decide) hv hi
  obtain ⟨G2, h7, -⟩ := h2.field sltR_used (by show 0 < 11; decide)
  exact ⟨g, off, rfl, G, h2, h7.cells (cs := []) 0 _ rfl, h3, h4, h5, h6⟩

set_option maxHeartbeats 1600000 in
set_option maxRecDepth 100000 in
theorem find_any (w : World) (b o : Nat) (hp : Hp) (F : List Nat) (h : Int) (vs : Value) (H : Here hpR w b o hp F) (hvs : w.cell? ⟨b, o + 2, none⟩ = some vs) (hi : -9223372036854775808 ≤ h ∧ h ≤ 9223372036854775807) :
    Calls Tryd.prog 64 #[.pointer (some ⟨b, o, none⟩), .int .i64 h] w fun e w' => e = .returned (.pointer (rowPtr vs 11 (slotOf hp h))) ∧ Chg (fun _ => False) w w' := by
  obtain ⟨c0, c1, ⟨a, cap, c2⟩, -⟩ := hpCells H
  rw [hvs] at c2
  cases c2
  have HX := Lib.hid (index_any hp.base hp.stride h w hi)
  have HS : Hid (∀ i, i < hp.slots.length → ∃ g off, a = some ⟨g, off, none⟩ ∧ w.cell? ⟨g, off + i * 11, none⟩ = some (.bool (hp.slots.getD i noSlt).used)) := Lib.hid (fun i hi => by
    obtain ⟨g, off, e, G, -, h1, -⟩ := hpSlot H hvs hi
    refine ⟨g, off, e, ?_⟩
    rw [List.getD_eq_getElem?_getD, List.getElem?_eq_getElem hi]
    exact h1)
  have HC := Lib.hid hvs
  unfold slotOf
  generalize indexM hp.base hp.stride h = i at *
  generalize hrs : (if 0 ≤ i ∧ i.toNat < hp.slots.length ∧ (hp.slots.getD i.toNat noSlt).used = true then some i.toNat else none) = rs at *
  have HRS := Lib.hid hrs
  clear H hi hvs hrs
  go_enter Tryd.func64, Tryd.ntmps64
  go_wp2_with fail
  refine HX.out.mono ?_
  rintro e w2 ⟨rfl, hc⟩
  have c2 := hc.cell HC.out
  have HCH := Lib.hid hc
  clear c0 c1 HX
  by_cases h0 : 0 ≤ i
  · have n0 : ¬ i < 0 := by omega
    have d0 : decide (i < 0) = false := decide_eq_false n0
    obtain ⟨k, rfl⟩ : ∃ k : Nat, i = (k : Int) := ⟨i.toNat, by omega⟩
    have hrs := HRS.out
    rw [Int.toNat_natCast] at hrs
    by_cases hl : k < hp.slots.length
    · have l1 : (k : Int) < (hp.slots.length : Int) := by omega
      obtain ⟨g, off, rfl, hu⟩ := HS.out k hl
      have hu2 := hc.cell hu
      clear hc hu
      cases hused : (hp.slots.getD k noSlt).used with
      | true =>
        rw [hused] at hu2
        rw [if_pos ⟨h0, hl, hused⟩] at hrs
        subst hrs
        clear hl n0 HRS hused
        go_wp2_with fail
        go_ret
        exact ⟨rfl, HCH.out⟩
      | false =>
        rw [hused] at hu2
        rw [if_neg (by rw [hused]; simp)] at hrs
        subst hrs
        clear hl n0 HRS hused
        go_wp2_with fail
        go_ret
        exact ⟨rfl, HCH.out⟩
    · have l1 : ¬ (k : Int) < (hp.slots.length : Int) := by omega
      rw [if_neg (fun x => hl x.2.1)] at hrs
      subst hrs
      clear hl n0 hc HRS
      go_wp2_with fail
      go_ret
      exact ⟨rfl, HCH.out⟩
  · have n0 : i < 0 := by omega
    have hrs := HRS.out
    rw [if_neg (fun x => h0 x.1)] at hrs
    subst hrs
    clear h0 hc HRS
    go_wp2_with fail
    go_ret
    exact ⟨rfl, HCH.out⟩

/-- Where an object lies, given the row of the slots. -/
def objPtr : Value → Option Nat → Option Addr
  | .slice (some ⟨g, off, _⟩) _ _, some i => some ⟨g, off + i * 11 + 1, none⟩
  | _, _ => none
theorem objPtr_none (v : Value) : objPtr v none = none := by unfold objPtr; split <;> simp_all
theorem slotOf_lt {hp : Hp} {h : Int} {i : Nat} (e : slotOf hp h = some i) : ∃ hi : i < hp.slots.length, hp.slots[i].used = true ∧ indexM hp.base hp.stride h = (i : Int) := by
  unfold slotOf at e
  by_cases c : 0 ≤ indexM hp.base hp.stride h ∧ (indexM hp.base hp.stride h).toNat < hp.slots.length ∧ (hp.slots.getD (indexM hp.base hp.stride h).toNat noSlt).used = true
  · rw [if_pos c] at e
    obtain rfl := Option.some.inj e
    refine ⟨c.2.1, ?_, by omega⟩
    have := c.2.2
    rw [List.getD_eq_getElem?_getD, List.getElem?_eq_getElem c.2.1] at this
    exact this
  · rw [if_neg c] at e
    cases e

set_option maxHeartbeats 800000 in
set_option maxRecDepth 100000 in
theorem at_any (w : World) (b o : Nat) (hp : Hp) (F : List Nat) (h : Int) (vs : Value) (H : Here hpR w b o hp F) (hvs : w.cell? ⟨b, o + 2, none⟩ = some vs) (hi : -9223372036854775808 ≤ h ∧ h ≤ 9223372036854775807) :
    Calls Tryd.prog 51 #[.pointer (some ⟨b, o, none⟩), .int .i64 h] w fun e w' => e = .returned (.pointer (objPtr vs (slotOf hp h))) ∧ Chg (fun _ => False) w w' := by
  have hf := find_any w b o hp F h vs H hvs hi
  cases hs : slotOf hp h with
  | none =>
    rw [hs, rowPtr_none] at hf
    have HF := Lib.hid hf
    have hn : objPtr vs none = none := objPtr_none vs
    rw [hn]
    clear hf hs H hvs hi hn
    go_enter Tryd.func51, Tryd.ntmps51
    go_wp2_with fail
    refine HF.out.mono ?_
    rintro e w2 ⟨rfl, hc⟩
    have HC := Lib.hid hc
    clear hc HF
    go_wp2_with fail
    go_ret
    exact ⟨rfl, HC.out⟩
  | some i =>
    obtain ⟨hlt, -, -⟩ := slotOf_lt hs
    obtain ⟨-, -, ⟨a, cap, c2⟩, -⟩ := hpCells H
    rw [hvs] at c2
    cases c2
    obtain ⟨g, off, rfl, -⟩ := hpSlot H hvs hlt
    rw [hs, rowPtr_some] at hf
    have HF := Lib.hid hf
    have hn : objPtr (.slice (some ⟨g, off, none⟩) hp.slots.length cap) (some i) = some ⟨g, off + i * 11 + 1, none⟩ := rfl
    rw [hn]
    clear hf hs H hvs hi hn hlt
    go_enter Tryd.func51, Tryd.ntmps51
    go_wp2_with fail
    refine HF.out.mono ?_
    rintro e w2 ⟨rfl, hc⟩
    have HC := Lib.hid hc
    clear hc HF
    go_wp2_with fail
    go_ret
    exact ⟨rfl, HC.out⟩

set_option maxHeartbeats 800000 in
set_option maxRecDepth 100000 in
theorem hat_any (w : World) (b o : Nat) (hp : Hp) (F : List Nat) (h : Int) (vs : Value) (H : Here hpR w b o hp F) (hvs : w.cell? ⟨b, o + 2, none⟩ = some vs) (hi : -9223372036854775808 ≤ h ∧ h ≤ 9223372036854775807) :
    Calls Tryd.prog 35 #[.pointer (some ⟨b, o, none⟩), .int .i64 h] w fun e w' => e = .returned (.pointer (objPtr vs (slotOf hp h))) ∧ Chg (fun _ => False) w w' := by
  have HF := Lib.hid (at_any w b o hp F h vs H hvs hi)
  clear H hvs hi
  go_enter Tryd.func35, Tryd.ntmps35
  go_wp2_with fail
  refine HF.out.mono ?_
  rintro e w2 ⟨rfl, hc⟩
  have HC := Lib.hid hc
  clear hc HF
  go_wp2_with fail
  go_ret
  exact ⟨rfl, HC.out⟩
end Go.Proofs.YtjianickjahdnaaDoor
namespace Go.Proofs.YtjianickjahdnaaDoor
open Go.RowKit
set_option linter.unusedVariables false
set_option linter.unusedSimpArgs false

theorem elem_slot : Elem Tryd.prog 91 11 152 := elem_of (by kernel_rfl)
/-- A new object: nothing but its kind and its prototype. -/
def newObj (kind proto : Int) : Obj := ⟨kind, proto, [], [], [], 0, 0, 0, 0, []⟩
theorem newObj_own (w : World) (kind proto : Int) : objR.own w [.int .i64 kind, .int .i64 proto, .slice none 0 0, .slice none 0 0, .slice none 0 0, .int .i64 0, .int .i64 0, .int .i64 0, .int .i64 0, .slice none 0 0] (newObj kind proto) [] := by
  have h : ∀ {α : Type} (A : Rep α) e, (A.row e).own w [.slice none 0 0] [] [] := fun A e => ⟨_, [], [], rfl, RowAt.nil _ _ _, .nil, rfl⟩
  exact ⟨_, _, _, _, [], [], [], [], rfl, h _ _, h _ _, h _ _, h _ _, rfl⟩
theorem newSlt_own (w : World) (kind proto : Int) : sltR.own w [.bool true, .int .i64 kind, .int .i64 proto, .slice none 0 0, .slice none 0 0, .slice none 0 0, .int .i64 0, .int .i64 0, .int .i64 0, .int .i64 0, .slice none 0 0] ⟨true, newObj kind proto⟩ [] :=
  ⟨_, rfl, newObj_own w kind proto⟩
def addedM (hp : Hp) (s : Slt) : Hp := { hp with slots := hp.slots ++ [s], live := hp.live + 1 }
/-- What Add has done to an arena. -/
structure Added (w : World) (b o : Nat) (hp' : Hp) (F : List Nat) (w' : World) : Prop where
  post : Post hpR w b o hp' F w'
  rest : ∀ j u, 5 ≤ j → w.cell? ⟨b, o + j, none⟩ = some u → w'.cell? ⟨b, o + j, none⟩ = some u

set_option maxHeartbeats 3200000 in
set_option maxRecDepth 100000 in
theorem add_any (w : World) (b o : Nat) (hp : Hp) (F : List Nat) (kind proto : Int) (H : Here hpR w b o hp F) (hfree : hp.free = []) (hl : Few hp.slots.length) (hlive : hp.live = hp.slots.length) :
    Calls Tryd.prog 31 #[.pointer (some ⟨b, o, none⟩), .agg #[.int .i64 kind, .int .i64 proto, .slice none 0 0, .slice none 0 0, .slice none 0 0, .int .i64 0, .int .i64 0, .int .i64 0, .int .i64 0, .slice none 0 0]] w
      fun e w' => e = .returned (.int .i64 (handleM hp.base hp.stride hp.slots.length)) ∧ Added w b o (addedM hp ⟨true, newObj kind proto⟩) F w' := by
  obtain ⟨c0, c1, -, ⟨af, capf, c3⟩, c4, -⟩ := hpCells H
  rw [hfree] at c3
  simp only [List.length_nil] at c3
  rw [hlive] at c4
  obtain ⟨p, cap, xs, Fs, Fr, c2, hopen, f2, hstay, hback⟩ := H.fieldAppending hpR_slots (by show 0 < 8; decide)
  obtain ⟨cb, Tb, hbox⟩ := H.boxed
  have f0 := H.frozen
  have HF := Lib.hid H
  have hbO : ∀ k, (Value.slice p hp.slots.length cap).ownBlock = some k → k ≠ b := by
    rintro k hk rfl
    have := (hstay w (w.setCell ⟨k, o + 2, none⟩ (.bool true)) (.refl _ _) ((Chg.setCell w _ _).mono (fun i _ hi => by subst hi; exact hk))).1
    rw [World.cell?_setCell_same _ _ _ c2] at this
    cases this
  have g1 := alloc_block w (.cells #[.int .i64 kind, .int .i64 proto, .slice none 0 0, .slice none 0 0, .slice none 0 0, .int .i64 0, .int .i64 0, .int .i64 0, .int .i64 0, .slice none 0 0] 47)
  have hch1 := Chg.alloc (fun _ => False) w (.cells #[.int .i64 kind, .int .i64 proto, .slice none 0 0, .slice none 0 0, .slice none 0 0, .int .i64 0, .int .i64 0, .int .i64 0, .int .i64 0, .slice none 0 0] 47)
  have d0 := hch1.cell c0
  have d1 := hch1.cell c1
  have d2 := hch1.cell c2
  have d3 := hch1.cell c3
  have d4 := hch1.cell c4
  go_enter Tryd.func31, Tryd.ntmps31
  go_upto_region 7 with fail
  have HFW := Lib.hid hl
  have HC0 := Lib.hid c0
  have HC1 := Lib.hid c1
  have HC4 := Lib.hid c4
  have HC2 := Lib.hid c2
  have HLV := Lib.hid hlive
  have HBX := Lib.hid hbox
  have HNB := Lib.hid H.nb
  clear c0 c1 c2 c3 c4 d0 d1 d3 d4 hl hlive hfree hbox
  have hs1 : (w.alloc (.cells #[.int .i64 kind, .int .i64 proto, .slice none 0 0, .slice none 0 0, .slice none 0 0, .int .i64 0, .int .i64 0, .int .i64 0, .int .i64 0, .slice none 0 0] 47)).heap.size = w.heap.size + 1 := by simp
  generalize w.alloc (.cells #[.int .i64 kind, .int .i64 proto, .slice none 0 0, .slice none 0 0, .slice none 0 0, .int .i64 0, .int .i64 0, .int .i64 0, .int .i64 0, .slice none 0 0] 47) = w1 at *
  clear hs1
  have m0 : w1.cell? ⟨w.heap.size, 0, none⟩ = some (.int .i64 kind) := cell_of_block (i := 0) g1 rfl
  have m1 : w1.cell? ⟨w.heap.size, 1, none⟩ = some (.int .i64 proto) := cell_of_block (i := 1) g1 rfl
  have m2 : w1.cell? ⟨w.heap.size, 2, none⟩ = some (.slice none 0 0) := cell_of_block (i := 2) g1 rfl
  have m3 : w1.cell? ⟨w.heap.size, 3, none⟩ = some (.slice none 0 0) := cell_of_block (i := 3) g1 rfl
  have m4 : w1.cell? ⟨w.heap.size, 4, none⟩ = some (.slice none 0 0) := cell_of_block (i := 4) g1 rfl
  have m5 : w1.cell? ⟨w.heap.size, 5, none⟩ = some (.int .i64 0) := cell_of_block (i := 5) g1 rfl
  have m6 : w1.cell? ⟨w.heap.size, 6, none⟩ = some (.int .i64 0) := cell_of_block (i := 6) g1 rfl
  have m7 : w1.cell? ⟨w.heap.size, 7, none⟩ = some (.int .i64 0) := cell_of_block (i := 7) g1 rfl
  have m8 : w1.cell? ⟨w.heap.size, 8, none⟩ = some (.int .i64 0) := cell_of_block (i := 8) g1 rfl
  have m9 : w1.cell? ⟨w.heap.size, 9, none⟩ = some (.slice none 0 0) := cell_of_block (i := 9) g1 rfl
  have hrowA := ((hopen.row.chg hch1 (fun _ _ x => x)).alloc (.cells #[.bool true, .int .i64 kind, .int .i64 proto, .slice none 0 0, .slice none 0 0, .slice none 0 0, .int .i64 0, .int .i64 0, .int .i64 0, .int .i64 0, .slice none 0 0] 91)).drew
  have hchA := ((hch1.allocR (.cells #[.bool true, .int .i64 kind, .int .i64 proto, .slice none 0 0, .slice none 0 0, .slice none 0 0, .int .i64 0, .int .i64 0, .int .i64 0, .int .i64 0, .slice none 0 0] 91))).drewR
  have hgA : (w1.alloc (.cells #[.bool true, .int .i64 kind, .int .i64 proto, .slice none 0 0, .slice none 0 0, .slice none 0 0, .int .i64 0, .int .i64 0, .int .i64 0, .int .i64 0, .slice none 0 0] 91)).drew.heap[w1.heap.size]? = some (.cells [.bool true, .int .i64 kind, .int .i64 proto, .slice none 0 0, .slice none 0 0, .slice none 0 0, .int .i64 0, .int .i64 0, .int .i64 0, .int .i64 0, .slice none 0 0].toArray 91 (0, 0)) := alloc_block w1 _
  have HGA := Lib.hid hgA
  have HE := Lib.hid elem_slot
  have HCA := Lib.hid hchA
  have c2A := hchA.cell HC2.out
  have HST := Lib.hid hstay
  have HBK := Lib.hid hback
  have hbG : ∀ w3, Chg (fun j => (Value.slice p hp.slots.length cap).ownBlock = some j) (w1.alloc (.cells #[.bool true, .int .i64 kind, .int .i64 proto, .slice none 0 0, .slice none 0 0, .slice none 0 0, .int .i64 0, .int .i64 0, .int .i64 0, .int .i64 0, .slice none 0 0] 91)).drew w3 → ∀ j u, w.cell? ⟨b, j, none⟩ = some u → w3.cell? ⟨b, j, none⟩ = some u := fun w3 h3 j u hu => h3.cellS (hchA.cell hu) (fun hk => hbO b (by simpa using hk) rfl)
  have HBG := Lib.hid hbG
  clear hgA hchA hbG hopen g1 hch1 hstay hback
  go_region_law
    ((refine step_append_elem (by rfl) _ _ _ (by rfl) 91 11 152 Tryd.underlying25 HE.out (by decide) _ hp.slots.length xs.flatten (by rfl) hrowA [.bool true, .int .i64 kind, .int .i64 proto, .slice none 0 0, .slice none 0 0, .slice none 0 0, .int .i64 0, .int .i64 0, .int .i64 0, .int .i64 0, .slice none 0 0] rfl w1.heap.size 91 (0, 0) (by rfl) HGA.out (by simp [Value.oneCell']) (by have := HFW.out.lt; unfold maxLen; omega) (by have := HFW.out.lt; omega) ?_; intro a2 n2 cp2 w2 hrow2 hchg2 hold2; have cc2 := (HST.out _ _ HCA.out hchg2).1; have f2 := (HST.out _ _ HCA.out hchg2).2))
  all_goals (
    have P3 := HBK.out _ _ [.bool true, .int .i64 kind, .int .i64 proto, .slice none 0 0, .slice none 0 0, .slice none 0 0, .int .i64 0, .int .i64 0, .int .i64 0, .int .i64 0, .slice none 0 0] ⟨true, newObj kind proto⟩ [] _ HCA.out (newSlt_own _ kind proto) (by simp) (by simp) hrow2 hchg2 hold2
    have c3 : ∀ j u, j ≠ o + 2 → w.cell? ⟨b, j, none⟩ = some u → (w2.setCell ⟨b, o + 2, none⟩ (.slice a2 n2 cp2)).cell? ⟨b, j, none⟩ = some u := fun j u hj hu => by
      rw [World.cell?_setCell_other _ _ _ _ (by intro e; cases e; exact hj rfl)]
      exact HBG.out _ hchg2 j u hu
    have e0 := c3 o _ (by omega) HC0.out
    have e1 := c3 (o + 1) _ (by omega) HC1.out
    have e4 := c3 (o + 4) _ (by omega) HC4.out
    obtain ⟨F3, H3, S3⟩ := P3
    have f4 := H3.frozen (o + 4)
    have HH3 := Lib.hid H3
    have HSS3 := Lib.hid S3
    have HC3 := Lib.hid c3
    clear H3 S3 c3 cc2 f2 m0 m1 m2 m3 m4 m5 m6 m7 m8 m9 HC0 HC1 HC4 hrow2 hchg2 hold2 c2A hrowA HGA HE HCA HST HBK HBG
    generalize w2.setCell ⟨b, o + 2, none⟩ (.slice a2 n2 cp2) = w3 at *
    obtain ⟨F4, H4, S4⟩ := HH3.out.setField hpR_live (y := (hp.slots.length : Int) + 1) (v := .int .i64 ((hp.slots.length : Int) + 1)) rfl
    have w1' : IntKind.i64.wrap ((hp.slots.length : Int) + 1) = (hp.slots.length : Int) + 1 := IntWalk.i64_in _ (by have := HFW.out.lt; omega)
    have c4 : ∀ j u, j ≠ o + 4 → w3.cell? ⟨b, j, none⟩ = some u → (w3.setCell ⟨b, o + 4, none⟩ (.int .i64 ((hp.slots.length : Int) + 1))).cell? ⟨b, j, none⟩ = some u := fun j u hj hu => by
      rw [World.cell?_setCell_other _ _ _ _ (by intro e; cases e; exact hj rfl)]
      exact hu
    have g0 := c4 o _ (by omega) e0
    have g1 := c4 (o + 1) _ (by omega) e1
    have HH4 := Lib.hid H4
    have HSS4 := Lib.hid S4
    have HC4' := Lib.hid c4
    clear H4 S4 c4
    go_upto_region 9 with fail
    clear e0 e1 e4 f4 w1'
    generalize w3.setCell ⟨b, o + 4, none⟩ (.int .i64 ((hp.slots.length : Int) + 1)) = w4 at *
    have HX := Lib.hid (handle_any hp.base hp.stride hp.slots.length w4 (by have := HFW.out.lt; omega))
    go_wp2_with fail
    refine HX.out.mono ?_
    rintro e w5 ⟨rfl, hc5⟩
    have HC5 := Lib.hid hc5
    clear hc5 HX g0 g1
    go_wp2_with fail
    go_ret
    refine ⟨rfl, ⟨?_, ?_⟩⟩
    · have : addedM hp ⟨true, newObj kind proto⟩ = { ({ hp with slots := hp.slots ++ [⟨true, newObj kind proto⟩] } : Hp) with live := (hp.slots.length : Int) + 1 } := by unfold addedM; rw [HLV.out]
      rw [this]
      exact ⟨F4, HH4.out.still HC5.out, (HSS3.out.trans HSS4.out).trans (Step.ofChg HC5.out)⟩
    · intro j u hj hu
      exact HC5.out.cell (HC4'.out _ _ (by omega) (HC3.out _ _ (by omega) hu)))
end Go.Proofs.YtjianickjahdnaaDoor
namespace Go.Proofs.YtjianickjahdnaaDoor
open Go.RowKit
set_option linter.unusedVariables false

theorem madeOne (z : Value) (n : Nat) : madeCells #[z] n = Array.replicate n z := by
  refine Array.ext (by simp [madeCells]) fun i h1 h2 => ?_
  simp [madeCells, Nat.mod_one]
theorem run_makeOne {P : Program} {t e : TypeId} {z : Value} {bytes : Nat} (ht : P.underlying t = some (.slice e)) (hE : (P.info? e).map (fun i => (i.zero, i.size, i.bytes)) = some (some z, 1, bytes)) (hz : z.cells = #[z]) (n : Int) (h0 : 0 ≤ n) (hb : (bytes : Int) * n ≤ 281474976710656) (h63 : n ≤ 9223372036854775807) :
    ∀ W : World, (Instr.makeSlice t (.int .i64 n) (.int .i64 n)).run P W = .ok (.slice (some ⟨W.heap.size, 0, none⟩) n.toNat n.toNat) (W.alloc (.cells (Array.replicate n.toNat z) e)) := by
  intro W
  match hm : P.info? e, hE with
  | some i, hE =>
    simp only [Option.map_some, Option.some.injEq, Prod.mk.injEq] at hE
    obtain ⟨e1, e2, e3⟩ := hE
    have := run_make (P := P) W t e i z ht hm e1 .i64 .i64 n n h0 (Int.le_refl _) (by rw [e3]; exact hb) h63
    rw [this, e2, Nat.mul_one, hz, madeOne]
theorem RowAt.made (W : World) (e : TypeId) (z : Value) (n : Nat) (hn : n ≤ maxLen) : RowAt (W.alloc (.cells (Array.replicate n z) e)) e 1 (.slice (some ⟨W.heap.size, 0, none⟩) n n) n (List.replicate n z) :=
  ⟨by simp, .inr ⟨W.heap.size, 0, n, _, rfl, alloc_block W _, Nat.le_refl _, hn, by simp, by simp⟩⟩
end Go.Proofs.YtjianickjahdnaaDoor
namespace Go.Proofs.YtjianickjahdnaaDoor
open Go.RowKit
set_option linter.unusedVariables false
set_option linter.unusedSimpArgs false

set_option maxHeartbeats 800000 in
set_option maxRecDepth 100000 in
theorem anew_any (a s : Int) (w : World) :
    Calls Tryd.prog 30 #[.agg #[.int .i64 a, .int .i64 s]] w fun e w' => e = .returned (.agg #[.int .i64 a, .int .i64 s, .slice none 0 0, .slice none 0 0, .int .i64 0]) ∧
      w' = (w.alloc (.cells #[.int .i64 a, .int .i64 s] 24)).alloc (.cells #[.int .i64 a, .int .i64 s, .slice none 0 0, .slice none 0 0, .int .i64 0] 28) := by
  go_enter Tryd.func30, Tryd.ntmps30
  go_wp2_with fail
  refine bodyPost_ret (results_cell_row rfl _ _ (w.heap.size + 1) _ _ _ _ (by rfl) (heap_alloc2_new _ _ _) Tryd.underlying28 rfl (by kernel_rfl)) rfl ?_
  exact ⟨rfl, rfl⟩

set_option maxHeartbeats 800000 in
set_option maxRecDepth 100000 in
theorem len_any (w : World) (b o : Nat) (hp : Hp) (F : List Nat) (H : Here hpR w b o hp F) :
    Calls Tryd.prog 16 #[.pointer (some ⟨b, o, none⟩)] w fun e w' => e = .returned (.int .i64 hp.live) ∧ w' = w := by
  obtain ⟨-, -, -, -, c4, -⟩ := hpCells H
  go_enter Tryd.func16, Tryd.ntmps16
  go_wp2_with fail
  go_ret
  exact ⟨rfl, rfl⟩


/-! ### A new heap -/
theorem info_int : (Tryd.prog.info? 3).map (fun i => (i.zero, i.size, i.bytes)) = some (some (.int .i64 0), 1, 8) := by kernel_rfl
theorem info_bool : (Tryd.prog.info? 4).map (fun i => (i.zero, i.size, i.bytes)) = some (some (.bool false), 1, 1) := by kernel_rfl
theorem made_ints (W : World) (n : Int) (h0 : 0 ≤ n) (h1 : n ≤ 100000) : (Instr.makeSlice 26 (.int .i64 n) (.int .i64 n)).run Tryd.prog W = .ok (.slice (some ⟨W.heap.size, 0, none⟩) n.toNat n.toNat) (W.alloc (.cells (Array.replicate n.toNat (.int .i64 0)) 3)) :=
  run_makeOne Tryd.underlying26 info_int rfl n h0 (by omega) (by omega) W
def kindsL : List Int := [1, 2, 4, 5, 6, 7, 8, 10, 11]
def hp0 (a s : Int) : Hp := ⟨a, s, [], [], 0, 0, 0, List.replicate 12 0⟩
/-- A new heap, m of the prototypes being made. -/
def newK (a s : Int) (m : Nat) : Hp :=
  { base := a, stride := s, slots := ⟨true, newObj 0 0⟩ :: List.replicate m ⟨true, newObj 0 (handleM a s 0)⟩, free := [], live := ((m + 1 : Nat) : Int), global := 0, texts := 0,
    protos := (List.range m).foldl (fun l i => l.set (kindsL.getD i 0).toNat (handleM a s ((i + 1 : Nat) : Int))) ((List.replicate 12 (0 : Int)).set 0 (handleM a s 0)) }
def hps (a s : Int) : List Int := let h := fun i : Int => handleM a s i; [h 0, h 1, h 2, h 2, h 3, h 4, h 5, h 6, h 7, 0, h 8, h 9]
def hpT (a s : Int) : Hp :=
  { base := a, stride := s, slots := ⟨true, newObj 0 0⟩ :: List.replicate 10 ⟨true, newObj 0 (handleM a s 0)⟩, free := [], live := 11, global := 0, texts := handleM a s 10, protos := hps a s }
def newM (a s : Int) : Hp :=
  { base := a, stride := s, slots := ⟨true, newObj 0 0⟩ :: List.replicate 11 ⟨true, newObj 0 (handleM a s 0)⟩, free := [], live := 12, global := handleM a s 11, texts := handleM a s 10, protos := hps a s }
theorem newK_len (a s : Int) (m : Nat) : (newK a s m).protos.length = 12 := by
  unfold newK
  simp only
  induction m with
  | zero => rfl
  | succ m ih => rw [List.range_succ, List.foldl_append]; simp only [List.foldl_cons, List.foldl_nil, List.length_set]; exact ih
theorem newK_succ (a s : Int) (m : Nat) : newK a s (m + 1) = { addedM (newK a s m) ⟨true, newObj 0 (handleM a s 0)⟩ with protos := (newK a s m).protos.set (kindsL.getD m 0).toNat (handleM a s ((m + 1 : Nat) : Int)) } := by
  unfold newK addedM
  simp only [List.range_succ, List.foldl_append, List.foldl_cons, List.foldl_nil, List.cons_append, ← List.replicate_succ', Hp.mk.injEq, true_and, and_true]
  omega
/-- A thing made behind w, and blocks apart from it that lie as they lay. -/
structure OwnL {α : Type} (A : Rep α) (w W : World) (b : Nat) (a : α) (L : List (Nat × _root_.Go.Obj)) : Prop where
  ex : ∃ F, Own A w W b 0 a F ∧ ∀ p ∈ L, W.heap[p.1]? = some p.2 ∧ p.1 ≠ b ∧ p.1 ∉ F
section
variable {α : Type} {A : Rep α} {w W W' : World} {b : Nat} {a : α} {L : List (Nat × _root_.Go.Obj)}
theorem OwnL.here (h : OwnL A w W b a L) : ∃ F, Here A W b 0 a F ∧ ∀ W' a', Post A W b 0 a' F W' → OwnL A w W' b a' L := by
  obtain ⟨F, ho, hr⟩ := h.ex
  refine ⟨F, ho.here, fun W' a' hp => ?_⟩
  obtain ⟨F', h1, h2⟩ := hp
  refine ⟨⟨F', ho.step h1 h2, fun p hp => ?_⟩⟩
  obtain ⟨k1, k2, k3⟩ := hr p hp
  refine ⟨h2.chg.keep k1 (fun x => x.elim k2 k3), k2, fun x => ?_⟩
  rcases h2.new p.1 x with y | y
  · exact k3 y
  · have := lt_of_block k1; omega
theorem OwnL.still (h : OwnL A w W b a L) (hc : Chg (fun _ => False) W W') : OwnL A w W' b a L := by
  obtain ⟨F, h1, h2⟩ := h.here
  exact h2 W' a (h1.same hc)
theorem OwnL.drew (h : OwnL A w W b a L) : OwnL A w W.drew b a L := h.still ((Chg.refl _ W).drewR)
theorem OwnL.get (h : OwnL A w W b a L) {k : Nat} {o : _root_.Go.Obj} (hk : (k, o) ∈ L) : W.heap[k]? = some o := by
  obtain ⟨F, -, hr⟩ := h.ex
  exact (hr _ hk).1
theorem OwnL.chg (h : OwnL A w W b a L) : Chg (fun _ => False) w W := by
  obtain ⟨F, ho, -⟩ := h.ex
  exact ho.chg
theorem OwnL.alloc (h : OwnL A w W b a L) (o : _root_.Go.Obj) : OwnL A w (W.alloc o) b a ((W.heap.size, o) :: L) := by
  obtain ⟨F, ho, hr⟩ := h.ex
  have hlt := ho.here.lt
  refine ⟨⟨F, ho.still (Chg.alloc _ W o), fun p hp => ?_⟩⟩
  rcases List.mem_cons.1 hp with rfl | hp
  · exact ⟨alloc_block W o, fun e => by have := hlt.1; simp only at e; omega, fun x => by have := hlt.2 _ x; simp only at this; omega⟩
  · obtain ⟨k1, k2, k3⟩ := hr p hp
    exact ⟨alloc_old o k1, k2, k3⟩
/-- Another block that lay there before the thing was made, or beside it. -/
theorem OwnL.fewer {L' : List (Nat × _root_.Go.Obj)} (h : OwnL A w W b a L) (hL : ∀ p ∈ L', p ∈ L) : OwnL A w W b a L' := by
  obtain ⟨F, ho, hr⟩ := h.ex
  exact ⟨F, ho, fun p hp => hr p (hL p hp)⟩
end
theorem kinds_get : ∀ m, m < 9 → (#[Value.int .i64 1, .int .i64 2, .int .i64 4, .int .i64 5, .int .i64 6, .int .i64 7, .int .i64 8, .int .i64 10, .int .i64 11] : Array Value)[0 + m]? = some (.int .i64 (kindsL.getD m 0))
  | 0, _ => rfl
  | 1, _ => rfl
  | 2, _ => rfl
  | 3, _ => rfl
  | 4, _ => rfl
  | 5, _ => rfl
  | 6, _ => rfl
  | 7, _ => rfl
  | 8, _ => rfl
  | m + 9, h => absurd h (by omega)
theorem setAll8 {w : World} {b T : Nat} {u0 u1 u2 u3 u4 u5 u6 u7 : Value} (h : w.heap[b]? = some (.cells #[u0, u1, u2, u3, u4, u5, u6, u7] T (0, 0))) (v0 v1 v2 v3 v4 v5 v6 v7 : Value) :
    ∃ W1, ((((((((w.setCell ⟨b, 0, none⟩ v0).setCell ⟨b, 1, none⟩ v1).setCell ⟨b, 2, none⟩ v2).setCell ⟨b, 3, none⟩ v3).setCell ⟨b, 4, none⟩ v4).setCell ⟨b, 5, none⟩ v5).setCell ⟨b, 6, none⟩ v6).setCell ⟨b, 7, none⟩ v7) = W1 ∧ W1.heap[b]? = some (.cells #[v0, v1, v2, v3, v4, v5, v6, v7] T (0, 0)) ∧ Chg (· = b) w W1 := by
  have c0 := Chg.setCell w ⟨b, 0, none⟩ v0
  have c1 := c0.setCellR ⟨b, 1, none⟩ v1 (fun _ => rfl)
  have c2 := c1.setCellR ⟨b, 2, none⟩ v2 (fun _ => rfl)
  have c3 := c2.setCellR ⟨b, 3, none⟩ v3 (fun _ => rfl)
  have c4 := c3.setCellR ⟨b, 4, none⟩ v4 (fun _ => rfl)
  have c5 := c4.setCellR ⟨b, 5, none⟩ v5 (fun _ => rfl)
  have c6 := c5.setCellR ⟨b, 6, none⟩ v6 (fun _ => rfl)
  have c7 := c6.setCellR ⟨b, 7, none⟩ v7 (fun _ => rfl)
  have h0 : (w.setCell ⟨b, 0, none⟩ v0).heap[b]? = some (.cells #[v0, u1, u2, u3, u4, u5, u6, u7] T (0, 0)) := setCell_block v0 h
  have h1 : ((w.setCell ⟨b, 0, none⟩ v0).setCell ⟨b, 1, none⟩ v1).heap[b]? = some (.cells #[v0, v1, u2, u3, u4, u5, u6, u7] T (0, 0)) := setCell_block v1 h0
  have h2 : (((w.setCell ⟨b, 0, none⟩ v0).setCell ⟨b, 1, none⟩ v1).setCell ⟨b, 2, none⟩ v2).heap[b]? = some (.cells #[v0, v1, v2, u3, u4, u5, u6, u7] T (0, 0)) := setCell_block v2 h1
  have h3 : ((((w.setCell ⟨b, 0, none⟩ v0).setCell ⟨b, 1, none⟩ v1).setCell ⟨b, 2, none⟩ v2).setCell ⟨b, 3, none⟩ v3).heap[b]? = some (.cells #[v0, v1, v2, v3, u4, u5, u6, u7] T (0, 0)) := setCell_block v3 h2
  have h4 : (((((w.setCell ⟨b, 0, none⟩ v0).setCell ⟨b, 1, none⟩ v1).setCell ⟨b, 2, none⟩ v2).setCell ⟨b, 3, none⟩ v3).setCell ⟨b, 4, none⟩ v4).heap[b]? = some (.cells #[v0, v1, v2, v3, v4, u5, u6, u7] T (0, 0)) := setCell_block v4 h3
  have h5 : ((((((w.setCell ⟨b, 0, none⟩ v0).setCell ⟨b, 1, none⟩ v1).setCell ⟨b, 2, none⟩ v2).setCell ⟨b, 3, none⟩ v3).setCell ⟨b, 4, none⟩ v4).setCell ⟨b, 5, none⟩ v5).heap[b]? = some (.cells #[v0, v1, v2, v3, v4, v5, u6, u7] T (0, 0)) := setCell_block v5 h4
  have h6 : (((((((w.setCell ⟨b, 0, none⟩ v0).setCell ⟨b, 1, none⟩ v1).setCell ⟨b, 2, none⟩ v2).setCell ⟨b, 3, none⟩ v3).setCell ⟨b, 4, none⟩ v4).setCell ⟨b, 5, none⟩ v5).setCell ⟨b, 6, none⟩ v6).heap[b]? = some (.cells #[v0, v1, v2, v3, v4, v5, v6, u7] T (0, 0)) := setCell_block v6 h5
  have h7 : ((((((((w.setCell ⟨b, 0, none⟩ v0).setCell ⟨b, 1, none⟩ v1).setCell ⟨b, 2, none⟩ v2).setCell ⟨b, 3, none⟩ v3).setCell ⟨b, 4, none⟩ v4).setCell ⟨b, 5, none⟩ v5).setCell ⟨b, 6, none⟩ v6).setCell ⟨b, 7, none⟩ v7).heap[b]? = some (.cells #[v0, v1, v2, v3, v4, v5, v6, v7] T (0, 0)) := setCell_block v7 h6
  exact ⟨_, rfl, h7, c7⟩
def z49 : _root_.Go.Obj := .cells #[.int .i64 0, .int .i64 0, .slice none 0 0, .slice none 0 0, .int .i64 0, .int .i64 0, .int .i64 0, .slice none 0 0] 30
def k9 : _root_.Go.Obj := .cells #[.int .i64 1, .int .i64 2, .int .i64 4, .int .i64 5, .int .i64 6, .int .i64 7, .int .i64 8, .int .i64 10, .int .i64 11] 3
/-- Add at the heap in the making. -/
theorem OwnL.add {w W : World} {b : Nat} {hp : Hp} {L : List (Nat × _root_.Go.Obj)} (h : OwnL hpR w W b hp L) (kind proto : Int) (hfree : hp.free = []) (hl : Few hp.slots.length) (hlive : hp.live = hp.slots.length) :
    Calls Tryd.prog 31 #[.pointer (some ⟨b, 0, none⟩), .agg #[.int .i64 kind, .int .i64 proto, .slice none 0 0, .slice none 0 0, .slice none 0 0, .int .i64 0, .int .i64 0, .int .i64 0, .int .i64 0, .slice none 0 0]] W
      fun e w' => e = .returned (.int .i64 (handleM hp.base hp.stride hp.slots.length)) ∧ OwnL hpR w w' b (addedM hp ⟨true, newObj kind proto⟩) L ∧ ∀ j u, 5 ≤ j → W.cell? ⟨b, 0 + j, none⟩ = some u → w'.cell? ⟨b, 0 + j, none⟩ = some u := by
  obtain ⟨F, h1, h2⟩ := h.here
  exact (add_any W b 0 hp F kind proto h1 hfree hl hlive).mono fun e w' ⟨he, ha⟩ => ⟨he, h2 _ _ ha.post, ha.rest⟩
/-- A prototype, and how it is set. -/
theorem protoSet {w : World} {b o : Nat} {hp : Hp} {F : List Nat} (H : Here hpR w b o hp F) (hl : 0 < hp.protos.length) : ∃ g off cap, w.cell? ⟨b, o + 7, none⟩ = some (.slice (some ⟨g, off, none⟩) hp.protos.length cap) ∧
    ∀ i (hi : i < hp.protos.length), w.cell? ⟨g, off + i, none⟩ = some (.int .i64 hp.protos[i]) ∧ w.frozen? ⟨g, off + i, none⟩ = false ∧ ∀ x, Post hpR w b o { hp with protos := hp.protos.set i x } F (w.setCell ⟨g, off + i, none⟩ (.int .i64 x)) := by
  obtain ⟨g, off, cap, hv⟩ := H.rowAt hpR_protos (by show 0 < 8; decide) hl
  refine ⟨g, off, cap, hv, fun i hi => ?_⟩
  obtain ⟨G, h1, -, -, -, h2⟩ := H.rowElem hpR_protos (by show 0 < 8; decide) hv hi
  have e : off + i * (Rep.int .i64).n = off + i := by show off + i * 1 = off + i; omega
  rw [e] at h1 h2
  refine ⟨h1.cells (cs := []) 0 _ rfl, h1.frozen _, fun x => ?_⟩
  obtain ⟨p, q⟩ := h1.set (y := x) (v := .int .i64 x) rfl
  exact (h2 _ _ _ p q).1


theorem alloc_at (w : World) (o : _root_.Go.Obj) (k : Nat) : (w.alloc o).heap[k]? = if k = w.heap.size then some o else w.heap[k]? := by
  unfold World.alloc
  exact Array.getElem?_push
theorem drew_at (w : World) : w.drew.heap = w.heap := rfl
theorem newI_of {w W : World} {r b : Nat} {a s : Int} (h : ∃ g, W.heap[b]? = some (.cells #[.int .i64 a, .int .i64 s, .slice none 0 0, .slice none 0 0, .int .i64 0, .int .i64 0, .int .i64 0, .slice (some ⟨g, 0, none⟩) 12 12] 30 (0, 0)) ∧
      W.heap[g]? = some (.cells #[.int .i64 0, .int .i64 0, .int .i64 0, .int .i64 0, .int .i64 0, .int .i64 0, .int .i64 0, .int .i64 0, .int .i64 0, .int .i64 0, .int .i64 0, .int .i64 0] 3 (0, 0)) ∧
      W.heap[r]? = some (.cells #[.int .i64 0, .int .i64 0, .slice none 0 0, .slice none 0 0, .int .i64 0, .int .i64 0, .int .i64 0, .slice none 0 0] 30 (0, 0)) ∧
      w.heap.size ≤ b ∧ w.heap.size ≤ g ∧ r ≠ b ∧ r ≠ g ∧ b ≠ g) (hc : Chg (fun _ => False) w W) : OwnL hpR w W b (hp0 a s) [(r, z49)] := by
  obtain ⟨g, hb, hg, hr, h1, h2, h3, h4, h5⟩ := h
  have hn : ∀ {α : Type} (A : Rep α) e, (A.row e).own W [.slice none 0 0] [] [] := fun A e => ⟨_, [], [], rfl, RowAt.nil _ _ _, .nil, rfl⟩
  have hrow : RowAt W 3 1 (.slice (some ⟨g, 0, none⟩) 12 12) (List.replicate 12 (0 : Int)).length ((List.replicate 12 (0 : Int)).flatMap fun s => [.int .i64 s]) :=
    ⟨by simp, .inr ⟨g, 0, 12, _, rfl, hg, by simp, by simp [maxLen], by simp, rfl⟩⟩
  refine ⟨⟨[g], ⟨⟨⟨_, _, hb, ?_⟩, by simpa using h5, by simp⟩, hc, h1, by simpa using h2⟩, fun p hp => ?_⟩⟩
  rotate_left
  · obtain rfl : p = (r, z49) := by simpa using hp
    exact ⟨hr, h3, by simpa using h4⟩
  exact ⟨_, _, _, [], [], [g], rfl, hn _ _, hn _ _, ofRow_flat hrow, rfl⟩

set_option maxHeartbeats 3200000 in
set_option maxRecDepth 100000 in
theorem new_any (a s : Int) (w : World) :
    Calls Tryd.prog 10 #[.agg #[.int .i64 a, .int .i64 s]] w fun e w' => ∃ cs F, e = .returned (.agg cs.toArray) ∧ hpR.own w' cs (newM a s) F ∧ F.Nodup ∧ (∀ k ∈ F, w.heap.size ≤ k) ∧ Chg (fun _ => False) w w' := by
  have HA := Lib.hid (fun w => anew_any a s w)
  have hmk := fun W => made_ints W 12 (by omega) (by omega)
  rw [show (12 : Int).toNat = 12 from rfl] at hmk
  have hrep : Array.replicate 12 (Value.int .i64 0) = #[.int .i64 0, .int .i64 0, .int .i64 0, .int .i64 0, .int .i64 0, .int .i64 0, .int .i64 0, .int .i64 0, .int .i64 0, .int .i64 0, .int .i64 0, .int .i64 0] := rfl
  rw [hrep] at hmk
  clear hrep
  go_enter Tryd.func10, Tryd.ntmps10
  go_upto_region 1 with fail
  go_cut [3] (fun u3 wx => ∃ bh, u3 = .pointer (some ⟨bh, 0, none⟩) ∧ OwnL hpR w wx bh (hp0 a s) [(w.heap.size + 1, z49)])
  case first =>
    go_region_law (go_simp; go_at_call 30; refine (HA.out _).mono ?_; rintro e w2 ⟨rfl, rfl⟩)
    all_goals (
      go_wp2_with fail
      go_meet
      refine ⟨_, rfl, newI_of ?_ ?_⟩
      · simp only [drew_at, alloc_at, World.size_alloc, if_true]
        first
        | (refine ⟨w.heap.size + 1 + 1, ?_, ?_, ?_, ?_, ?_, ?_, ?_, ?_⟩ <;> first | omega | ((repeat' split) <;> first | (exfalso; omega) | rfl))
        | (refine ⟨w.heap.size + 1 + 1 + 1, ?_, ?_, ?_, ?_, ?_, ?_, ?_, ?_⟩ <;> first | omega | ((repeat' split) <;> first | (exfalso; omega) | rfl))
        | (refine ⟨w.heap.size + 1 + 1 + 1 + 1, ?_, ?_, ?_, ?_, ?_, ?_, ?_, ?_⟩ <;> first | omega | ((repeat' split) <;> first | (exfalso; omega) | rfl))
        | (refine ⟨w.heap.size + 1 + 1 + 1 + 1 + 1, ?_, ?_, ?_, ?_, ?_, ?_, ?_, ?_⟩ <;> first | omega | ((repeat' split) <;> first | (exfalso; omega) | rfl))
      · repeat (first | with_reducible exact Chg.refl _ _ | with_reducible apply Chg.drewR | with_reducible apply Chg.allocR))
  case rest =>
  obtain ⟨bh, rfl, HN⟩ := hcut
  clear hmk HA
  have HC := Lib.hid (HN.add 0 0 rfl (Few.of 0 (Nat.le_refl _) (by omega)) rfl)
  rw [show (hp0 a s).slots.length = 0 from rfl, show (hp0 a s).base = a from rfl, show (hp0 a s).stride = s from rfl] at HC
  clear HN
  go_upto_region 3 with (go_at_call 31; refine (HC.out).mono ?_; rintro e w2 ⟨rfl, HN2, -⟩)
  obtain ⟨F2, H2, back2⟩ := HN2.here
  obtain ⟨g, off, cap, c7, hset⟩ := protoSet H2 (by show 0 < 12; omega)
  obtain ⟨q1, q2, q3⟩ := hset 0 (by show 0 < 12; omega)
  rw [Nat.zero_add] at c7
  rw [Nat.add_zero] at q1 q2
  rw [show (addedM (hp0 a s) ⟨true, newObj 0 0⟩).protos.length = 12 from rfl] at c7
  have HN3 := back2 _ _ (q3 (handleM a s 0))
  have e3 : { addedM (hp0 a s) ⟨true, newObj 0 0⟩ with protos := (addedM (hp0 a s) ⟨true, newObj 0 0⟩).protos.set 0 (handleM a s 0) } = newK a s 0 := rfl
  rw [e3] at HN3
  have HN3' := Lib.hid HN3
  clear e3 HN3 hset q3 back2 H2 HN2
  go_upto_region 4 with fail
  rw [Nat.add_zero] at HN3'
  clear c7 q1 q2
  have HN4 := HN3'.out
  generalize w2.setCell ⟨g, off, none⟩ (.int .i64 (handleM a s 0)) = w3 at *
  have HN5 := HN4.alloc (.cells #[.int .i64 1, .int .i64 2, .int .i64 4, .int .i64 5, .int .i64 6, .int .i64 7, .int .i64 8, .int .i64 10, .int .i64 11] 3)
  clear HN4 HN3'
  go_wp2_with fail
  go_loopw [6, 20] (fun _ u wr => ∃ m : Nat, m ≤ 9 ∧ u = .int .i64 m ∧ Hid (OwnL hpR w wr bh (newK a s m) [(w3.heap.size, k9), (w.heap.size + 1, z49)])) (fun _ u _ => 9 - (intOf u).toNat)
  case atStart => exact ⟨0, by omega, rfl, Lib.hid HN5⟩
  case round =>
    obtain ⟨m, hm, rfl, HI⟩ := hrel
    clear HN5
    by_cases hlt : m < 9
    · have h1 : (m : Int) < 9 := by omega
      have h0 : (0 : Int) ≤ (m : Int) := by omega
      have hkd : wr.cell? ⟨w3.heap.size, 0 + m, none⟩ = some (.int .i64 (kindsL.getD m 0)) := cell_of_block (HI.out.get (k := w3.heap.size) (o := k9) (List.mem_cons_self ..)) (kinds_get m hlt)
      rw [Nat.zero_add] at hkd
      have hkr : 0 ≤ kindsL.getD m 0 ∧ kindsL.getD m 0 < 12 := by
        have : ∀ m, m < 9 → 0 ≤ kindsL.getD m 0 ∧ kindsL.getD m 0 < 12 := by decide
        exact this m hlt
      obtain ⟨F2, H2, back2⟩ := HI.out.here
      obtain ⟨g2, off2, cap2, c7, -⟩ := protoSet H2 (by rw [newK_len]; omega)
      rw [newK_len, Nat.zero_add] at c7
      have hlen : (newK a s m).slots.length = m + 1 := by show (List.replicate m _).length + 1 = _; simp
      have HC := Lib.hid (HI.out.drew.add 0 (handleM a s 0) rfl (Few.of 20 (by rw [hlen]; omega) (by omega)) (by rw [hlen]; rfl))
      rw [hlen, show (newK a s m).base = a from rfl, show (newK a s m).stride = s from rfl] at HC
      have hsucc := Lib.hid (newK_succ a s m)
      have hpl := Lib.hid (newK_len a s m)
      have HLT := Lib.hid hlt
      have w64 : IntKind.i64.wrap ((m : Int) + 1) = ((m + 1 : Nat) : Int) := IntWalk.i64_in _ (by omega)
      clear H2 back2 hlen hm HI hlt
      generalize hk : kindsL.getD m 0 = kd at *
      obtain ⟨kn, rfl⟩ : ∃ kn : Nat, kd = (kn : Int) := ⟨kd.toNat, by omega⟩
      have hk1 : (kn : Int) < 12 := hkr.2
      have hk0 : (0 : Int) ≤ (kn : Int) := hkr.1
      clear hkr hk
      rw [Int.toNat_natCast] at hsucc
      have HPS : Hid (∀ wq, OwnL hpR w wq bh (addedM (newK a s m) ⟨true, newObj 0 (handleM a s 0)⟩) [(w3.heap.size, k9), (w.heap.size + 1, z49)] →
          (∀ j u, 5 ≤ j → wr.drew.cell? ⟨bh, 0 + j, none⟩ = some u → wq.cell? ⟨bh, 0 + j, none⟩ = some u) →
          wq.cell? ⟨bh, 7, none⟩ = some (.slice (some ⟨g2, off2, none⟩) 12 cap2) ∧ (∃ x, wq.cell? ⟨g2, off2 + kn, none⟩ = some (.int .i64 x)) ∧ wq.frozen? ⟨g2, off2 + kn, none⟩ = false ∧
          Hid (OwnL hpR w (wq.setCell ⟨g2, off2 + kn, none⟩ (.int .i64 (handleM a s ((m + 1 : Nat) : Int)))) bh { addedM (newK a s m) ⟨true, newObj 0 (handleM a s 0)⟩ with protos := (newK a s m).protos.set kn (handleM a s ((m + 1 : Nat) : Int)) } [(w3.heap.size, k9), (w.heap.size + 1, z49)])) := Lib.hid (by
        intro wq HQ hst
        have c7' := hst 7 _ (by omega) c7
        obtain ⟨Fq, Hq, bq⟩ := HQ.here
        obtain ⟨gq, oq, cq, cc7, hset⟩ := protoSet Hq (by show 0 < (newK a s m).protos.length; rw [hpl.out]; omega)
        rw [c7', show (addedM (newK a s m) ⟨true, newObj 0 (handleM a s 0)⟩).protos.length = 12 from hpl.out, Option.some.injEq] at cc7
        cases cc7
        obtain ⟨q1, q2, q3⟩ := hset kn (by show kn < (newK a s m).protos.length; rw [hpl.out]; omega)
        exact ⟨c7', ⟨_, q1⟩, q2, Lib.hid (bq _ _ (q3 _))⟩)
      go_upto_region 7 with fail
      clear hkd h1 h0
      go_region_law (go_simp; go_at_call 31; refine (HC.out).mono ?_; rintro e wq ⟨rfl, HQ, hst⟩; obtain ⟨c7', ⟨xq, q1⟩, q2, HQ3⟩ := HPS.out _ HQ hst; clear HQ hst)
      all_goals (
        go_wp2_with fail
        go_roundw
        case rel => exact ⟨m + 1, by have := HLT.out; omega, rfl, by rw [hsucc.out]; exact HQ3⟩
        case measure => have := HLT.out; simp [intOf]; omega)
    · obtain rfl : m = 9 := by omega
      clear hm hlt
      have H9 := HI.out.fewer (L' := [(w.heap.size + 1, z49)]) (fun p hp => List.mem_cons_of_mem _ hp)
      obtain ⟨F9, h9, b9⟩ := H9.here
      obtain ⟨g9, o9, k9', c9, hset⟩ := protoSet h9 (by show 0 < 12; omega)
      rw [Nat.zero_add, show (newK a s 9).protos.length = 12 from rfl] at c9
      obtain ⟨q1, -, -⟩ := hset 2 (by show 2 < 12; omega)
      obtain ⟨r1, r2, r3⟩ := hset 3 (by show 3 < 12; omega)
      have e1 : (newK a s 9).protos[2]'(by show 2 < 12; omega) = handleM a s 2 := rfl
      rw [e1] at q1
      have HQ3 := Lib.hid (b9 _ _ (r3 (handleM a s 2)))
      clear e1 r3 hset b9 h9 H9 HI
      have e9 : { newK a s 9 with protos := (newK a s 9).protos.set 3 (handleM a s 2) } = { newK a s 9 with protos := hps a s } := rfl
      rw [e9] at HQ3
      clear e9
      go_upto_region 9 with fail
      go_cut [] (fun wx => OwnL hpR w wx bh { newK a s 9 with protos := hps a s } [(w.heap.size + 1, z49)])
      case first =>
        go_region_law (fail)
        all_goals (
          go_wp2_with fail
          go_meet
          exact HQ3.out.still ((Chg.refl _ _).drewR))
      case rest =>
      clear c9 q1 r1 r2 HQ3 HC
      have HC := Lib.hid (hcut.add 0 (handleM a s 0) rfl (Few.of 10 (by show 10 ≤ 10; omega) (by omega)) rfl)
      rw [show ({ newK a s 9 with protos := hps a s } : Hp).slots.length = 10 from rfl, show ({ newK a s 9 with protos := hps a s } : Hp).base = a from rfl, show ({ newK a s 9 with protos := hps a s } : Hp).stride = s from rfl] at HC
      go_upto_region 11 with (go_at_call 31; refine (HC.out).mono ?_; rintro e wa ⟨rfl, HA, -⟩; obtain ⟨Fa, ha, ba⟩ := HA.here; obtain ⟨-, -, -, -, -, c5, c6, -⟩ := hpCells ha; rw [Nat.zero_add] at c5 c6; have f6 := ha.frozen 6; have HA6 := Lib.hid (ba _ _ (ha.setPost hpR_texts (y := handleM a s ((10 : Nat) : Int)) (v := .int .i64 (handleM a s ((10 : Nat) : Int))) rfl)); clear HC)
      rw [Nat.zero_add] at HA6
      clear c5 c6 f6 ba ha HA hcut
      have HB := HA6.out
      generalize wa.setCell ⟨bh, 6, none⟩ (.int .i64 (handleM a s ((10 : Nat) : Int))) = wb at *
      have HB2 : OwnL hpR w wb bh (hpT a s) [(w.heap.size + 1, z49)] := HB
      have HC := Lib.hid (HB2.add 0 (handleM a s 0) rfl (Few.of 11 (by show 11 ≤ 11; omega) (by omega)) rfl)
      rw [show (hpT a s).slots.length = 11 from rfl, show (hpT a s).base = a from rfl, show (hpT a s).stride = s from rfl] at HC
      clear HA6 HB HB2
      go_upto_region 12 with (go_at_call 31; refine (HC.out).mono ?_; rintro e wa ⟨rfl, HA, -⟩; obtain ⟨Fa, ha, ba⟩ := HA.here; obtain ⟨-, -, -, -, -, c5, c6, -⟩ := hpCells ha; rw [Nat.zero_add] at c5 c6; have f5 := ha.frozen 5; have HA6 := Lib.hid (ba _ _ (ha.setPost hpR_global (y := handleM a s ((11 : Nat) : Int)) (v := .int .i64 (handleM a s ((11 : Nat) : Int))) rfl)); clear HC)
      rw [Nat.zero_add] at HA6
      have HB : OwnL hpR w (wa.setCell ⟨bh, 5, none⟩ (.int .i64 (handleM a s ((11 : Nat) : Int)))) bh (newM a s) [(w.heap.size + 1, z49)] := HA6.out
      clear c5 c6 f5 ba ha HA HA6
      generalize wa.setCell ⟨bh, 5, none⟩ (.int .i64 (handleM a s ((11 : Nat) : Int))) = wb2 at *
      have hr := HB.get (k := w.heap.size + 1) (o := z49) (List.mem_cons_self ..)
      obtain ⟨F, ho, hL⟩ := HB.ex
      obtain ⟨cs, hcs, hcell⟩ := ho.here.cell
      have hcs' := hcs
      obtain ⟨v1, v2, v3, F1, F2', F3, rfl, o1, o2, o3, hF⟩ := hcs'
      obtain ⟨x1, y1, p1⟩ := Rep.opened o1
      obtain ⟨n1, m1, rfl, -⟩ := p1.val
      obtain ⟨x2, y2, p2⟩ := Rep.opened o2
      obtain ⟨n2, m2, rfl, -⟩ := p2.val
      obtain ⟨x3, y3, p3⟩ := Rep.opened o3
      obtain ⟨n3, m3, rfl, -⟩ := p3.val
      have t0 := hcell 0 _ rfl
      have t1 := hcell 1 _ rfl
      have t2 := hcell 2 _ rfl
      have t3 := hcell 3 _ rfl
      have t4 := hcell 4 _ rfl
      have t5 := hcell 5 _ rfl
      have t6 := hcell 6 _ rfl
      have t7 := hcell 7 _ rfl
      simp only [Nat.zero_add] at t0 t1 t2 t3 t4 t5 t6 t7
      have HCS := Lib.hid hcs
      have HLO := Lib.hid ho.los
      have HND := Lib.hid ho.here.nd
      have HCH := Lib.hid ho.chg
      have HNF := Lib.hid (hL (w.heap.size + 1, z49) (List.mem_cons_self ..)).2.2
      have HR := Lib.hid hr
      clear hcs hcell ho hL HB o1 o2 o3 p1 p2 p3 hF
      unfold z49 at hr
      have z0 : wb2.cell? ⟨w.heap.size + 1, 0, none⟩ = some (.int .i64 0) := cell_of_block hr rfl
      have y0 : wb2.frozen? ⟨w.heap.size + 1, 0, none⟩ = false := frozen_of_block hr
      have z1 : wb2.cell? ⟨w.heap.size + 1, 1, none⟩ = some (.int .i64 0) := cell_of_block hr rfl
      have y1 : wb2.frozen? ⟨w.heap.size + 1, 1, none⟩ = false := frozen_of_block hr
      have z2 : wb2.cell? ⟨w.heap.size + 1, 2, none⟩ = some (.slice none 0 0) := cell_of_block hr rfl
      have y2 : wb2.frozen? ⟨w.heap.size + 1, 2, none⟩ = false := frozen_of_block hr
      have z3 : wb2.cell? ⟨w.heap.size + 1, 3, none⟩ = some (.slice none 0 0) := cell_of_block hr rfl
      have y3 : wb2.frozen? ⟨w.heap.size + 1, 3, none⟩ = false := frozen_of_block hr
      have z4 : wb2.cell? ⟨w.heap.size + 1, 4, none⟩ = some (.int .i64 0) := cell_of_block hr rfl
      have y4 : wb2.frozen? ⟨w.heap.size + 1, 4, none⟩ = false := frozen_of_block hr
      have z5 : wb2.cell? ⟨w.heap.size + 1, 5, none⟩ = some (.int .i64 0) := cell_of_block hr rfl
      have y5 : wb2.frozen? ⟨w.heap.size + 1, 5, none⟩ = false := frozen_of_block hr
      have z6 : wb2.cell? ⟨w.heap.size + 1, 6, none⟩ = some (.int .i64 0) := cell_of_block hr rfl
      have y6 : wb2.frozen? ⟨w.heap.size + 1, 6, none⟩ = false := frozen_of_block hr
      have z7 : wb2.cell? ⟨w.heap.size + 1, 7, none⟩ = some (.slice none 0 0) := cell_of_block hr rfl
      have y7 : wb2.frozen? ⟨w.heap.size + 1, 7, none⟩ = false := frozen_of_block hr
      clear hr
      go_wp2_with fail
      clear z0 z1 z2 z3 z4 z5 z6 z7 y0 y1 y2 y3 y4 y5 y6 y7 t0 t1 t2 t3 t4 t5 t6 t7
      obtain ⟨W1, hW1, hb1, hc1⟩ := setAll8 HR.out (.int .i64 (newM a s).base) (.int .i64 (newM a s).stride) (.slice n1 (newM a s).slots.length m1) (.slice n2 (newM a s).free.length m2) (.int .i64 (newM a s).live) (.int .i64 (newM a s).global) (.int .i64 (newM a s).texts) (.slice n3 (newM a s).protos.length m3)
      rw [hW1]
      clear hW1
      refine bodyPost_ret (results_cell_row rfl _ _ (w.heap.size + 1) _ _ _ _ (by rfl) hb1 Tryd.underlying30 rfl (by kernel_rfl)) rfl ?_
      exact ⟨_, rfl, _, hpR.chg HCS.out hc1 (fun k hk e => HNF.out (e ▸ hk)), HND.out, HLO.out, HCH.out.trans hc1 (fun _ _ x => x) (fun i hi e => by omega)⟩
end Go.Proofs.YtjianickjahdnaaDoor
namespace Go.Proofs.YtjianickjahdnaaDoor
open Go.RowKit
set_option linter.unusedVariables false

/-- Each value takes one cell. -/
def Ones (cs : List Value) : Prop := ∀ u ∈ cs, u.oneCell' = true
theorem Ones.nil : Ones [] := fun u h => by cases h
theorem Ones.append {a b : List Value} (h : Ones a) (k : Ones b) : Ones (a ++ b) := fun u hu => (List.mem_append.1 hu).elim (h u) (k u)
structure One {α : Type} (A : Rep α) : Prop where
  ones : ∀ {w cs a F}, A.own w cs a F → Ones cs
section
variable {α : Type} {A : Rep α} {w : World} {xs : List (List Value)} {l : List α} {Fs : List (List Nat)}
theorem Each.ones (hA : One A) (h : Each A w xs l Fs) : Ones xs.flatten := by
  induction h with
  | nil => exact Ones.nil
  | cons h1 _ ih => rw [List.flatten_cons]; exact (hA.ones h1).append ih
theorem RowAt.one {e size n : Nat} {v : Value} {zs : List Value} (h : RowAt w e size v n zs) : v.oneCell' = true := by
  obtain ⟨a, cap, rfl, _⟩ := h.slice
  rfl
theorem One.row (A : Rep α) (e : TypeId) : One (A.row e) := ⟨fun ⟨v, xs, Fs, hv, h2, _⟩ u hu => by
  subst hv
  simp only [List.mem_singleton] at hu
  subst hu
  exact h2.one⟩
theorem One.str : One Rep.str := ⟨fun ⟨h, _⟩ u hu => by subst h; simp only [List.mem_singleton] at hu; subst hu; rfl⟩
theorem One.bool : One Rep.bool := ⟨fun ⟨h, _⟩ u hu => by subst h; simp only [List.mem_singleton] at hu; subst hu; rfl⟩
theorem One.int (k : IntKind) : One (Rep.int k) := ⟨fun ⟨h, _⟩ u hu => by subst h; simp only [List.mem_singleton] at hu; subst hu; rfl⟩
end
/-- A row as the second argument of append. -/
theorem Src.ofRow {P : Program} {w : World} {t e e' size n : Nat} {v : Value} {xs : List Value} (hk : P.underlying t = some (.slice e')) (h : RowAt w e size v n xs) (h1 : Ones xs) : Src P size t v n xs w := by
  obtain ⟨a, cap, rfl, -⟩ := h.slice
  cases a with
  | none =>
    rcases h.2 with ⟨hv, rfl⟩ | ⟨g, off, c, cur, hv, -⟩
    · have hx : xs = [] := List.eq_nil_of_length_eq_zero (by simpa using h.1)
      subst hx
      exact Src.ofNil _ hk cap
    · simp at hv
  | some ad => exact Src.ofSlice _ hk ad n cap xs h.1 (h.cells rfl) h1
/-- A whole row appended. Outside a region that draws. -/
theorem list_append_rows {P : Program} {W : World} {ops : Array Oper} {rest : List Oper} {o : Oper} {a : Act} {Q : Exit → Act → World → Prop} (hgd : o.guard = none) (s x : Operand) (t : TypeId)
    (ho : o.op = .call { callee := .builtin .append, args := #[s, x], argTypes := #[t, t] })
    (e : TypeId) (size bytes : Nat) (ht : P.underlying t = some (.slice e)) (hE : Elem P e size bytes) (hsz : 0 < size)
    (v : Value) (n : Nat) (xs : List Value) (hsv : a.eval s = v) (hown : RowAt W e size v n xs) (xv : Value) (m : Nat) (news : List Value) (hx : a.eval x = xv) (hxr : RowAt W e size xv m news) (h1 : Ones news)
    (h63 : n + m ≤ maxLen) (hbytes : (n + m) * bytes ≤ 140737488355328)
    (h : ∀ a1 n1 c1 w', RowAt w' e size (.slice a1 n1 c1) (n + m) (xs ++ news) → Chg (fun k => v.ownBlock = some k) W w' → (∀ k, (Value.slice a1 n1 c1).ownBlock = some k → v.ownBlock = some k ∨ W.heap.size ≤ k) → wpList P ops Q rest (a.put o.dst (.slice a1 n1 c1)) w') :
    wpList P ops Q (o :: rest) a W := by
  obtain ⟨i, z, hi, hz, hsize, hby, hzs⟩ := hE
  exact wpList_append_slice W hgd s x t t ho e i z size bytes ht hi hz hsize hby hzs hsz v n xs hsv hown _ m news hx (Src.ofRow ht hxr h1) h63 hbytes h
/-- The same inside a region that draws its order. -/
theorem step_append_rows {P : Program} {W : World} {ops : Array Oper} {o : Oper} {a : Act} {K : Act → World → Prop} {Q : Exit → Act → World → Prop} {E : Prop} (hgd : o.guard = none) (s x : Operand) (t : TypeId)
    (ho : o.op = .call { callee := .builtin .append, args := #[s, x], argTypes := #[t, t] })
    (e : TypeId) (size bytes : Nat) (ht : P.underlying t = some (.slice e)) (hE : Elem P e size bytes) (hsz : 0 < size)
    (v : Value) (n : Nat) (xs : List Value) (hsv : a.eval s = v) (hown : RowAt W e size v n xs) (xv : Value) (m : Nat) (news : List Value) (hx : a.eval x = xv) (hxr : RowAt W e size xv m news) (h1 : Ones news)
    (h63 : n + m ≤ maxLen) (hbytes : (n + m) * bytes ≤ 140737488355328)
    (h : ∀ a1 n1 c1 w', RowAt w' e size (.slice a1 n1 c1) (n + m) (xs ++ news) → Chg (fun k => v.ownBlock = some k) W w' → (∀ k, (Value.slice a1 n1 c1).ownBlock = some k → v.ownBlock = some k ∨ W.heap.size ≤ k) → K (a.put o.dst (.slice a1 n1 c1)) w') :
    if Region.wanted o (yielded ops a.tmps) = true then Oper.wp P o a W K Q else E := by
  obtain ⟨i, z, hi, hz, hsize, hby, hzs⟩ := hE
  refine step_append_row hgd s x t t ho e i z size bytes ht hi hz hsize hby hzs hsz v n xs hsv hown _ m news hx (Src.ofRow ht hxr h1) h63 hbytes ?_
  intro v' w' h1 h2 h3
  obtain ⟨a1, c1, rfl, _⟩ := h1.slice
  exact h a1 _ c1 w' h1 h2 h3
/-- An empty row of one's own, just made. -/
theorem RowAt.fresh (w : World) (e size T : Nat) (hT : T = e) : RowAt (w.alloc (.cells #[] T)) e size (.slice (some ⟨w.heap.size, 0, none⟩) 0 0) 0 [] := by
  subst hT
  exact ⟨by simp, .inr ⟨w.heap.size, 0, 0, _, rfl, alloc_block w _, Nat.le_refl _, by simp, by simp, by simp⟩⟩
/-- A row with one element, just made. -/
theorem RowAt.single (w : World) (e size T : Nat) (cs : List Value) (hT : T = e) (hl : cs.length = size) : RowAt (w.alloc (.cells cs.toArray T)) e size (.slice (some ⟨w.heap.size, 0, none⟩) 1 1) 1 cs := by
  subst hT
  exact ⟨by simpa using hl, .inr ⟨w.heap.size, 0, 1, _, rfl, alloc_block w _, Nat.le_refl _, by unfold maxLen; omega, by rw [Nat.zero_add, Nat.one_mul, ← hl]; simp, by rw [List.drop_zero, Nat.one_mul, ← hl]; simp⟩⟩
theorem RowAt.freshAt (w : World) (e size g : Nat) (hg : w.heap.size = g) : RowAt (w.alloc (.cells #[] e)) e size (.slice (some ⟨g, 0, none⟩) 0 0) 0 [] := by
  subst hg; exact RowAt.fresh w e size e rfl
theorem RowAt.singleAt (w : World) (e size g : Nat) (cs : Array Value) (hg : w.heap.size = g) (hl : cs.size = size) : RowAt (w.alloc (.cells cs e)) e size (.slice (some ⟨g, 0, none⟩) 1 1) 1 cs.toList := by
  subst hg
  have := RowAt.single w e size e cs.toList rfl (by simpa using hl)
  simpa using this
/-- The first elements of a row, and the last ones. -/
theorem RowAt.prefix {w : World} {e size n m c : Nat} {a : Option Addr} {xs : List Value} (h : RowAt w e size (.slice a n c) n xs) (hm : m ≤ n) : RowAt w e size (.slice a m c) m (xs.take (m * size)) := by
  have hmul : m * size ≤ n * size := Nat.mul_le_mul_right _ hm
  have h1 := h.1
  refine ⟨by rw [List.length_take]; omega, ?_⟩
  rcases h.2 with ⟨hv, rfl⟩ | ⟨g, off, cap, cur, hv, k1, k2, k3, k4, k5⟩
  · obtain rfl : m = 0 := by omega
    exact .inl ⟨hv, rfl⟩
  · simp only [Value.slice.injEq] at hv
    obtain ⟨rfl, -, rfl⟩ := hv
    exact .inr ⟨g, off, c, cur, rfl, k1, by omega, k3, k4, by rw [← k5, List.take_take, Nat.min_eq_left hmul]⟩
def reslS (size : Nat) (p : Option Addr) (n cap d : Nat) : Value := .slice (if cap = d then p else p.map (·.add (d * size))) (n - d) (cap - d)
theorem elem_eq {P : Program} {t e : TypeId} (ht : P.underlying t = some (.slice e)) : P.elem t = e := by
  unfold Program.elem
  rw [ht]
theorem run_reslS {P : Program} (w : World) (t e size : Nat) (ht : P.underlying t = some (.slice e)) (hs : (sizeOf e).run P w = .ok size w) (p : Option Addr) (n cap : Nat) (d : Int) (h0 : 0 ≤ d) (h1 : d ≤ n) : (Instr.slice t (.slice p n cap) (some (.int .i64 d)) none none).run P w = .ok (reslS size p n cap d.toNat) w := by
  have he := elem_eq ht
  rw [run_slice_l w t p n cap (by rw [he]; exact ht) .i64 d h0 h1, he, hs]
  simp [Result.andThen, sliced, reslS]
theorem run_takeS {P : Program} (w : World) (t e size : Nat) (ht : P.underlying t = some (.slice e)) (hs : (sizeOf e).run P w = .ok size w) (p : Option Addr) (n cap : Nat) (d : Int) (h0 : 0 ≤ d) (h1 : d ≤ cap) : (Instr.slice t (.slice p n cap) none (some (.int .i64 d)) none).run P w = .ok (.slice p d.toNat cap) w := by
  have he := elem_eq ht
  rw [run_slice_h w t p n cap (by rw [he]; exact ht) .i64 d h0 h1, he, hs]
  simp [Result.andThen, sliced]
  have hadd : ∀ a : Addr, a.add 0 = a := fun a => by unfold Addr.add; split <;> simp_all
  cases p <;> simp [hadd]
theorem RowAt.suffix {w : World} {e size n d c : Nat} {a : Option Addr} {xs : List Value} (h : RowAt w e size (.slice a n c) n xs) (hd : d ≤ n) : RowAt w e size (reslS size a n c d) (n - d) (xs.drop (d * size)) := by
  have hmul : d * size ≤ n * size := Nat.mul_le_mul_right _ hd
  have h1 := h.1
  refine ⟨by rw [List.length_drop, h1, ← Nat.sub_mul], ?_⟩
  unfold reslS
  rcases h.2 with ⟨hv, rfl⟩ | ⟨g, off, cap, cur, hv, k1, k2, k3, k4, k5⟩
  · obtain rfl : d = 0 := by omega
    simp only [Value.slice.injEq] at hv
    obtain ⟨rfl, -, rfl⟩ := hv
    exact .inl ⟨by simp, rfl⟩
  · simp only [Value.slice.injEq] at hv
    obtain ⟨rfl, -, rfl⟩ := hv
    refine .inr ?_
    have hadd : (⟨g, off, none⟩ : Addr).add (d * size) = ⟨g, off + d * size, none⟩ := by unfold Addr.add; split <;> simp_all
    have hcd : d * size ≤ c * size := Nat.mul_le_mul_right _ (by omega)
    by_cases hc : c = d
    · obtain rfl : n = d := by omega
      rw [if_pos hc]
      subst hc
      refine ⟨g, off, 0, cur, by simp, k1, by omega, by omega, by omega, ?_⟩
      rw [List.drop_of_length_le (l := xs) (by omega)]; simp
    · rw [if_neg hc]
      refine ⟨g, off + d * size, c - d, cur, by simp [hadd], k1, by omega, by omega, by rw [Nat.sub_mul]; omega, ?_⟩
      rw [← k5, List.drop_take, List.drop_drop, Nat.sub_mul]
/-- The block of a value that append gave is one of this call's. -/
theorem own_ge {v v0 : Value} {W : World} {B : Nat} (h : ∀ k, v.ownBlock = some k → v0.ownBlock = some k ∨ W.heap.size ≤ k) (h0 : ∀ k, v0.ownBlock = some k → B ≤ k) (hB : B ≤ W.heap.size) : ∀ k, v.ownBlock = some k → B ≤ k :=
  fun k hk => (h k hk).elim (h0 k) (Nat.le_trans hB)
theorem own_at {B g o n c : Nat} (h : B ≤ g) : ∀ k, (Value.slice (some ⟨g, o, none⟩) n c).ownBlock = some k → B ≤ k := fun k hk => by
  have x : some g = some k := hk
  cases x
  exact h
theorem own_ne {g g2 o o2 n n2 c c2 : Nat} (h : g ≠ g2) : ∀ k, (Value.slice (some ⟨g, o, none⟩) n c).ownBlock = some k → ¬ (Value.slice (some ⟨g2, o2, none⟩) n2 c2).ownBlock = some k := fun k h1 h2 => by
  have x : some g = some k := h1
  have y : some g2 = some k := h2
  cases x
  cases y
  exact h rfl
/-- A change of blocks that are new is none of what was there. -/
theorem Chg.fresh {w w1 w2 : World} {S : Nat → Prop} (h : Chg (fun _ => False) w w1) (k : Chg S w1 w2) (hS : ∀ i, S i → w.heap.size ≤ i) : Chg (fun _ => False) w w2 :=
  h.trans k (fun _ _ x => x) (fun i hi x => by have := hS i x; omega)
section
variable {α β : Type} {A : Rep α} {B : Rep β} {w : World} {b o k : Nat} {a : α} {F : List Nat} {e : TypeId}
/-- A row in a field, about to be copied, lengthened by one and stored anew. -/
theorem Here.fieldCopy {get : α → List β} {set : α → List β → α} (fl : FieldOf A (B.row e) k get set) (hB : One B) (hA : 0 < A.n) (H : Here A w b o a F) :
    ∃ p cap xs, w.cell? ⟨b, o + k, none⟩ = some (.slice p (get a).length cap) ∧ RowAt w e B.n (.slice p (get a).length cap) (get a).length xs ∧ Ones xs ∧ (get a).length ≤ cap ∧ cap ≤ maxLen ∧ w.frozen? ⟨b, o + k, none⟩ = false ∧
      ∀ w3 x y v3, Chg (fun _ => False) w w3 → B.own w3 x y [] → RowAt w3 e B.n v3 ((get a).length + 1) (xs ++ x) → (∀ j, v3.ownBlock = some j → w.heap.size ≤ j) → Post A w b o (set a (get a ++ [y])) F (w3.setCell ⟨b, o + k, none⟩ v3) := by
  obtain ⟨G1, h1, h2, h3⟩ := H.field fl hA
  obtain ⟨v, xs, Fs, hc, hopen⟩ := h1.openRow
  obtain ⟨p, cap, rfl, hc1, hc2⟩ := hopen.val
  refine ⟨p, cap, xs.flatten, hc, hopen.row, hopen.each.ones hB, hc1, hc2, H.frozen _, fun w3 x y v3 k1 k2 k3 k4 => ?_⟩
  have hnd := h1.nd
  have hlt := h1.lt.2
  rw [hopen.fp] at hnd hlt
  simp only [List.nodup_append, List.mem_append] at hnd hlt
  obtain ⟨q1, q2⟩ := h1.put (w2 := w3) (v := v3) (y := get a ++ [y]) (G' := ownL v3 ++ Fs.flatten) rfl (k1.mono (fun _ _ x => x.elim)) ⟨v3, xs ++ [x], Fs ++ [[]], rfl, by rw [List.length_append, List.flatten_append]; simpa using k3, (hopen.each.keep (k1.keepAll fun _ _ x => x)).append (.cons k2 .nil), by simp⟩
    (by
      rw [List.nodup_append]
      refine ⟨own_le_one _, hnd.2.1, fun i hi j hj e => ?_⟩
      have := k4 i (mem_ownL.1 hi)
      have := hlt j (.inr hj)
      omega)
    (fun j hj => by
      rcases List.mem_append.1 hj with hj | hj
      · exact .inr (k4 j (mem_ownL.1 hj))
      · exact .inl (by rw [hopen.fp]; exact List.mem_append_right _ hj))
  exact h3 _ _ _ q1 q2
end
end Go.Proofs.YtjianickjahdnaaDoor
