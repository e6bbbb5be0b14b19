/-
  The statements' calls as they come in: []knapsackref53.Op; Few.
-/
import Derived.Test.YtaacafdlklnegaaOpenc
import Derived.Test.YtaacafdlklnegaaTikk
namespace Go.Proofs.Ytaacafdlklnegaa
open Go.ChangeShapes Go.WideShapes Go.ChangeAt Go.RowKit
set_option linter.unusedVariables false

structure COp where
  kind : Int
  page : Int
  epoch : Int
  number : Int
  at_ : Int
  text : ByteArray
def COp.cells (o : COp) : List Value := [.int .u8 o.kind, .int .u8 o.page, .int .i8 o.epoch, .int .i8 o.number, .int .i8 o.at_, .string o.text]
structure COpOk (o : COp) : Prop where
  kind : 0 ≤ o.kind ∧ o.kind ≤ 255
  page : 0 ≤ o.page ∧ o.page ≤ 255
  epoch : -128 ≤ o.epoch ∧ o.epoch ≤ 127
  number : -128 ≤ o.number ∧ o.number ≤ 127
  at_ : -128 ≤ o.at_ ∧ o.at_ ≤ 127
  text : o.text.size ≤ maxLen
theorem list6 {x : List Value} {a b c d e f : Value} (hl : x.length = 6) (h0 : x[0]? = some a) (h1 : x[1]? = some b) (h2 : x[2]? = some c) (h3 : x[3]? = some d) (h4 : x[4]? = some e) (h5 : x[5]? = some f) : x = [a, b, c, d, e, f] := by
  match x, hl with
  | [_, _, _, _, _, _], _ => simp_all

set_option maxRecDepth 100000 in
theorem open_ops {H : Type} {enc : TypeId × Value → H} {w : World} {base : Nat} {v : Value} {d : DataW H} {ps : List MemPlace} (hv : Value.okWide Try.prog w .any base 42 v) (h : DataW.Trod enc Try.prog w 0 (fun _ => true) true 42 v d ps) :
    ∃ x : Value × List COp, v = x.1 ∧ ArgRows w x.1 6 (x.2.map COp.cells) ∧ ∀ o ∈ x.2, COpOk o := by
  have h6 : Try.prog.cellsOf 48 = 6 := by kernel_rfl
  obtain ⟨xs, h1, h2⟩ := open_rows Try.underlying42 Try.underlying48 (by rw [h6]; decide) hv h
  rw [h6] at h1 h2
  have cu : Try.prog.cellsOf 5 = 1 := by kernel_rfl
  have ci : Try.prog.cellsOf 46 = 1 := by kernel_rfl
  have cs : Try.prog.cellsOf 9 = 1 := by kernel_rfl
  have e1 : IntKind.u8.min = 0 := by decide
  have e2 : IntKind.u8.max = 255 := by decide
  have e3 : IntKind.i8.min = -128 := by decide
  have e4 : IntKind.i8.max = 127 := by decide
  have one : ∀ x ∈ xs, ∃ o : COp, x = o.cells ∧ COpOk o := by
    intro x hx
    obtain ⟨hl, hf⟩ := h2 x hx
    obtain ⟨n0, y0, k0⟩ := hf 0 _ rfl
    obtain ⟨n1, y1, k1⟩ := hf 1 _ rfl
    obtain ⟨n2, y2, k2⟩ := hf 2 _ rfl
    obtain ⟨n3, y3, k3⟩ := hf 3 _ rfl
    obtain ⟨n4, y4, k4⟩ := hf 4 _ rfl
    obtain ⟨n5, y5, k5⟩ := hf 5 _ rfl
    obtain ⟨a0, b0, r0⟩ := cell_int Try.underlying5 cu k0
    obtain ⟨a1, b1, r1⟩ := cell_int Try.underlying5 cu k1
    obtain ⟨a2, b2, r2⟩ := cell_int Try.underlying46 ci k2
    obtain ⟨a3, b3, r3⟩ := cell_int Try.underlying46 ci k3
    obtain ⟨a4, b4, r4⟩ := cell_int Try.underlying46 ci k4
    obtain ⟨a5, b5, r5⟩ := cell_string Try.underlying9 cs k5
    rw [e1, e2] at r0 r1
    rw [e3, e4] at r2 r3 r4
    exact ⟨⟨a0, a1, a2, a3, a4, a5⟩, list6 hl b0 b1 b2 b3 b4 b5, r0, r1, r2, r3, r4, r5⟩
  have all : ∀ ys : List (List Value), (∀ x ∈ ys, ∃ o : COp, x = o.cells ∧ COpOk o) → ∃ os : List COp, ys = os.map COp.cells ∧ ∀ o ∈ os, COpOk o := by
    intro ys
    induction ys with
    | nil => intro _; exact ⟨[], rfl, by simp⟩
    | cons y ys ih =>
      intro hy
      obtain ⟨o, rfl, ho⟩ := hy _ (List.mem_cons_self ..)
      obtain ⟨os, rfl, hos⟩ := ih (fun x hx => hy x (List.mem_cons_of_mem _ hx))
      refine ⟨o :: os, rfl, fun x hx => ?_⟩
      rcases List.mem_cons.1 hx with rfl | hx
      · exact ho
      · exact hos x hx
  obtain ⟨os, rfl, hos⟩ := all xs one
  exact ⟨(v, os), rfl, h1, hos⟩
end Go.Proofs.Ytaacafdlklnegaa
