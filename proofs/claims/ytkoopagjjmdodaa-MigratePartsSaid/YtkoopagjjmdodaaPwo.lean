/-
  Two machines side by side, with slices of messages that they have sent.
-/
import Derived.Test.YtkoopagjjmdodaaMrj
import Derived.Test.YtkoopagjjmdodaaMigh
namespace Go.Proofs.Ytkoopagjjmdodaa
open Go.RowKit
set_option linter.unusedVariables false

/-- A slice of messages, with its block. -/
def MsgRow (w : World) (v : Value) (l : List Msg) : Prop := RowAt w 39 8 v l.length (l.flatMap Msg.cells)
structure PW (w0 w : World) (ba bb : Nat) (a b : Host) (rows : List (Value × List Msg)) : Prop where
  ex : ∃ Fa Fb, Own hostR w0 w ba 0 a Fa ∧ Own hostR w0 w bb 0 b Fb ∧ ba ≠ bb ∧ ba ∉ Fb ∧ bb ∉ Fa ∧ (∀ k ∈ Fa, k ∉ Fb) ∧
    ∀ r ∈ rows, MsgRow w r.1 r.2 ∧ ∀ k, r.1.ownBlock = some k → k ≠ ba ∧ k ≠ bb ∧ k ∉ Fa ∧ k ∉ Fb
section
variable {w0 w w' : World} {ba bb : Nat} {a b : Host} {rows : List (Value × List Msg)}
theorem PW.swap (H : PW w0 w ba bb a b rows) : PW w0 w bb ba b a rows := by
  obtain ⟨Fa, Fb, h1, h2, h3, h4, h5, h6, h7⟩ := H.ex
  exact ⟨Fb, Fa, h2, h1, h3.symm, h5, h4, fun k hk hx => h6 k hx hk, fun r hr => ⟨(h7 r hr).1, fun k hk => by
    obtain ⟨q1, q2, q3, q4⟩ := (h7 r hr).2 k hk
    exact ⟨q2, q1, q4, q3⟩⟩⟩
theorem PW.chg (H : PW w0 w ba bb a b rows) : Chg (fun _ => False) w0 w := by
  obtain ⟨Fa, Fb, h1, -⟩ := H.ex
  exact h1.chg
theorem PW.still (H : PW w0 w ba bb a b rows) (hc : Chg (fun _ => False) w w') : PW w0 w' ba bb a b rows := by
  obtain ⟨Fa, Fb, h1, h2, h3, h4, h5, h6, h7⟩ := H.ex
  exact ⟨Fa, Fb, h1.still hc, h2.still hc, h3, h4, h5, h6, fun r hr => ⟨(h7 r hr).1.chg hc (fun _ _ x => x), (h7 r hr).2⟩⟩
theorem PW.drew (H : PW w0 w ba bb a b rows) : PW w0 w.drew ba bb a b rows := H.still ((Chg.refl _ w).drewR)
theorem PW.row (H : PW w0 w ba bb a b rows) {v : Value} {l : List Msg} (hr : (v, l) ∈ rows) : MsgRow w v l := by
  obtain ⟨Fa, Fb, h1, h2, h3, h4, h5, h6, h7⟩ := H.ex
  exact (h7 _ hr).1
/-- An operation of the first machine. -/
theorem PW.op (H : PW w0 w ba bb a b rows) : ∃ Fa, Here hostR w ba 0 a Fa ∧ ∀ a' w', HostPost w ba 0 a' Fa w' → PW w0 w' ba bb a' b rows := by
  obtain ⟨Fa, Fb, h1, h2, h3, h4, h5, h6, h7⟩ := H.ex
  refine ⟨Fa, h1.here, fun a' w' ⟨F', hh, hs⟩ => ?_⟩
  have o1 := h1.step hh hs
  refine ⟨F', Fb, o1, ⟨h2.here.apart hs h3.symm h5 h4 (fun k hk hx => h6 k hx hk), o1.chg, h2.lo, h2.los⟩, h3, h4, fun hx => ?_, fun k hk hx => ?_, fun r hr => ?_⟩
  · rcases hs.new bb hx with y | y
    · exact h5 y
    · have := h2.here.lt.1; omega
  · rcases hs.new k hk with y | y
    · exact h6 k y hx
    · have := h2.here.lt.2 k hx; omega
  · obtain ⟨q1, q2⟩ := h7 r hr
    refine ⟨q1.chg hs.chg (fun k hk hx => ?_), fun k hk => ?_⟩
    · obtain ⟨p1, p2, p3, p4⟩ := q2 k hk
      exact hx.elim p1 p3
    · obtain ⟨p1, p2, p3, p4⟩ := q2 k hk
      refine ⟨p1, p2, fun hx => ?_, p4⟩
      rcases hs.new k hx with y | y
      · exact p3 y
      · have := q1.lt k hk; omega
/-- The first machine sends. -/
theorem PW.send (H : PW w0 w ba bb a b rows) : ∃ Fa, Here hostR w ba 0 a Fa ∧ ∀ w' v F1 G, Here hostR w' ba 0 { a with out := [] } F1 → Step w w' ba 0 3 Fa F1 → outR.own w' [v] a.out G → (∀ k ∈ G, k ∈ Fa ∧ k ∉ F1 ∧ k ≠ ba) → PW w0 w' ba bb { a with out := [] } b ((v, a.out) :: rows) := by
  obtain ⟨Fa, Fb, h1, h2, h3, h4, h5, h6, h7⟩ := H.ex
  refine ⟨Fa, h1.here, fun w' v F1 G hh hs ho hG => ?_⟩
  have o1 := h1.step hh hs
  obtain ⟨v', e1, e2, e3⟩ := row_flat.1 ho
  cases e1
  have hbF : bb ∉ F1 := fun hx => by
    rcases hs.new bb hx with y | y
    · exact h5 y
    · have := h2.here.lt.1; omega
  refine ⟨F1, Fb, o1, ⟨h2.here.apart hs h3.symm h5 h4 (fun k hk hx => h6 k hx hk), o1.chg, h2.lo, h2.los⟩, h3, h4, hbF, fun k hk hx => ?_, fun r hr => ?_⟩
  · rcases hs.new k hk with y | y
    · exact h6 k y hx
    · have := h2.here.lt.2 k hx; omega
  · rcases List.mem_cons.1 hr with rfl | hr
    · refine ⟨e2, fun k hk => ?_⟩
      have hkG : k ∈ G := by rw [e3]; exact mem_ownL.2 hk
      obtain ⟨p1, p2, p3⟩ := hG k hkG
      exact ⟨p3, fun e => h5 (e ▸ p1), p2, h6 k p1⟩
    · obtain ⟨q1, q2⟩ := h7 r hr
      refine ⟨q1.chg hs.chg (fun k hk hx => ?_), fun k hk => ?_⟩
      · obtain ⟨p1, p2, p3, p4⟩ := q2 k hk
        exact hx.elim p1 p3
      · obtain ⟨p1, p2, p3, p4⟩ := q2 k hk
        refine ⟨p1, p2, fun hx => ?_, p4⟩
        rcases hs.new k hx with y | y
        · exact p3 y
        · have := q1.lt k hk; omega
theorem PW.made {w1 w2 : World} (ha : Own hostR w0 w1 ba 0 a []) (hb : Own hostR w1 w2 bb 0 b []) : PW w0 w2 ba bb a b [] :=
  ⟨[], [], ha.still hb.chg, hb.from ha.chg, fun e => by have := ha.here.lt.1; have := hb.lo; omega, by simp, by simp, by simp, by simp⟩
end
end Go.Proofs.Ytkoopagjjmdodaa
