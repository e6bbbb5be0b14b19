/-
  TicketPieces: the guard's other side, and the statement.
-/
import Derived.Test.YtaacafdlklnegaaTikj
namespace Go.Proofs.Ytaacafdlklnegaa
set_option linter.unusedVariables false
open Go.ChangeShapes Go.WideShapes Go.ChangeAt Go.RowKit
open Go.ChangeMaps (open_string shut_string)

set_option maxHeartbeats 800000 in
set_option maxRecDepth 100000 in
theorem ticketPieces_long (P : List ByteArray) (ws : List Int) (vp vw : Value) (w : World) (hP : ArgRow w vp (P.map Value.string)) (hw : ArgRow w vw (ws.map (Value.int .u8))) (hb : ¬ (P.length ≤ 40 ∧ ws.length ≤ 60)) :
    Calls Try.prog 4 #[vp, vw] w fun e w' => e = .returned (.bool true) ∧ Below w.heap.size w w' := by
  obtain ⟨pp, cp, rfl, p1, p2, -⟩ := hP
  obtain ⟨pw, cw, rfl, q1, q2, -⟩ := hw
  rw [List.length_map] at *
  have l1 : (P.length : Int) ≤ 9223372036854775807 := by unfold maxLen at p2; omega
  have l2 : (ws.length : Int) ≤ 9223372036854775807 := by unfold maxLen at q2; omega
  have HB := Lib.hid hb
  clear p1 p2 q1 q2 hb
  by_cases h40 : P.length ≤ 40
  · have d40 : decide ((40 : Int) < (P.length : Int)) = false := by simp; omega
    have d60 : decide ((60 : Int) < (ws.length : Int)) = true := by have := HB.out; simp; omega
    clear h40
    go_enter Try.func4, Try.ntmps4
    go_wp2_with fail
    refine (awake_any w).mono ?_
    rintro e w1 ⟨rfl, hc1⟩
    go_wp2_with fail
    refine (awake_any w1).mono ?_
    rintro e w2 ⟨rfl, hc2⟩
    go_wp2_with fail
    go_ret
    exact ⟨rfl, (hc1.trans' hc2).below (Nat.le_refl _) (fun _ h => h.elim)⟩
  · have d40 : decide ((40 : Int) < (P.length : Int)) = true := by simp; omega
    clear h40
    go_enter Try.func4, Try.ntmps4
    go_wp2_with fail
    refine (awake_any w).mono ?_
    rintro e w1 ⟨rfl, hc1⟩
    go_wp2_with fail
    refine (awake_any w1).mono ?_
    rintro e w2 ⟨rfl, hc2⟩
    go_wp2_with fail
    go_ret
    exact ⟨rfl, (hc1.trans' hc2).below (Nat.le_refl _) (fun _ h => h.elim)⟩
theorem ticketPieces_walk (P : List ByteArray) (ws : List Int) (vp vw : Value) (w : World) (hP : ArgRow w vp (P.map Value.string)) (hw : ArgRow w vw (ws.map (Value.int .u8))) (hz : ∀ z ∈ ws, IntKind.u8.min ≤ z ∧ z ≤ IntKind.u8.max) (hs : ∀ x ∈ P, x.size ≤ maxLen) :
    Calls Try.prog 4 #[vp, vw] w fun e w' => e = .returned (.bool true) ∧ Below w.heap.size w w' := by
  by_cases hb : P.length ≤ 40 ∧ ws.length ≤ 60
  · refine ticketPieces_ok P ws vp vw w hP hw (fun z h => ?_) hs hb.1 hb.2
    have e1 : IntKind.u8.min = 0 := by decide
    have e2 : IntKind.u8.max = 255 := by decide
    have := hz z h
    rw [e1, e2] at this
    exact this
  · exact ticketPieces_long P ws vp vw w hP hw hb
set_option maxRecDepth 100000 in
theorem arg_strs {H : Type} {enc : TypeId × Value → H} {w : World} {base : Nat} {v : Value} {d : DataW H} {ps : List MemPlace} (hv : Value.okWide Try.prog w .any base 25 v) (h : DataW.Trod enc Try.prog w 0 (fun _ => true) true 25 v d ps) :
    ∃ x : Value × List ByteArray, v = x.1 ∧ ArgRow w x.1 (x.2.map Value.string) ∧ ∀ z ∈ x.2, z.size ≤ maxLen := by
  obtain ⟨ss, h1, h2, -⟩ := open_strRow Try.underlying25 Try.underlying9 (by kernel_rfl) hv h
  exact ⟨(v, ss), rfl, h1, h2⟩
set_option maxRecDepth 100000 in
theorem arg_bytes {H : Type} {enc : TypeId × Value → H} {w : World} {base : Nat} {v : Value} {d : DataW H} {ps : List MemPlace} (hv : Value.okWide Try.prog w .any base 35 v) (h : DataW.Trod enc Try.prog w 0 (fun _ => true) true 35 v d ps) :
    ∃ x : Value × List Int, v = x.1 ∧ ArgRow w x.1 (x.2.map (Value.int .u8)) ∧ ∀ z ∈ x.2, IntKind.u8.min ≤ z ∧ z ≤ IntKind.u8.max := by
  obtain ⟨ss, h1, h2, -⟩ := open_intRow (k := .u8) Try.underlying35 Try.underlying5 (by kernel_rfl) hv h
  exact ⟨(v, ss), rfl, h1, h2⟩
set_option maxRecDepth 100000 in
theorem ticketPieces_lifted (os : Os) (started : os.Started) (H : Type) (enc : TypeId × Value → H) :
    ReturnsInHanded {} Try.checked os 4 .any (Rows.ticketPiecesSpec.pre6 enc Try.prog Try.f4 [] false) (Rows.ticketPiecesSpec.post enc Try.prog Try.f4 false true false false) := by
  refine law_lift (C := Try.checked) (tb := 4) started Try.own Try.laidOut (by kernel_rfl) Try.func4 (by kernel_rfl) rfl Try.underlying4 rfl ?_
    (ChangeSpec.witness6 (enc := enc) (C := Try.checked) false ⟨#[], #[.slice none 0 0, .slice none 0 0], []⟩ 8 (by kernel_rfl) (by kernel_rfl) (by kernel_rfl) (by kernel_rfl)) ?_
  · intro ds h
    match ds, h with
    | [_, _], _ => rfl
  · intro W base vs ds ps hval hA hsz
    have hp : Try.f4.params.toList = [25, 35] := by rw [Try.params4]
    rw [hp] at hval hA hsz
    obtain ⟨v0, vs0, d0, ds0, p0, q0, rfl, rfl, rfl, h0, r0⟩ := trodAll_cons hA
    obtain ⟨v1, vs1, d1, ds1, p1, q1, rfl, rfl, rfl, h1, r1⟩ := trodAll_cons r0
    obtain ⟨rfl, rfl, rfl⟩ := trodAll_nil r1
    obtain ⟨a0, rfl, w0⟩ := arg_strs (hval 0 25 v0 rfl rfl) h0
    obtain ⟨a1, rfl, w1⟩ := arg_bytes (hval 1 35 v1 rfl rfl) h1
    exact ticketPieces_walk a0.2 a1.2 a0.1 a1.1 W w0.1 w1.1 w1.2 w0.2

theorem ticketPieces_holds : Rows.TicketPiecesSaid :=
  OpenClaim.holds_of_wide 4 Try.f4 rfl rfl rfl rfl rfl rfl rfl ⟨rfl, rfl, rfl, rfl, rfl⟩ rfl rfl rfl rfl rfl (by kernel_rfl) Try.func4 (by kernel_rfl)
    (of_decide_eq_true (by kernel_rfl)) (by unfold Func.isWrapper; first | (rw [if_pos (by decide +kernel)]; kernel_rfl) | (rw [if_neg (by decide +kernel)]; exact ⟨rfl, rfl⟩))
    (fun os started H enc _ => ticketPieces_lifted os started H enc)
#print axioms ticketPieces_holds
end Go.Proofs.Ytaacafdlklnegaa
