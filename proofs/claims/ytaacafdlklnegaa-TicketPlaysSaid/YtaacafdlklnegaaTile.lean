/-
  How long the bytes of a reachable state can be (plain law of layer 53).
-/
import Derived.Test.YtaacafdlklnegaaTild
import Derived.Test.YtaacafdlklnegaaTilc
namespace Go.Proofs.Ytaacafdlklnegaa
open Go.RowKit
set_option linter.unusedVariables false

theorem Reach.encLen {s : State} {n : Nat} (h : Reach s n) (hn : n ≤ 80) : (encS s).length ≤ 100000000 := by
  have hw := h.wee
  have hs := h.small
  have hE : ∀ x ∈ s.entries, (encE x).length ≤ 100000 := fun x hx => by
    obtain ⟨h1, h2, h3, h4⟩ := hw.es x hx
    obtain ⟨h5, h6⟩ := hs.each x hx
    have a1 := bytesOf_le x.page 200 h1 (by omega)
    have a2 := encI_le h2
    have a3 := bytesOf_le x.request 1000 h3 (by omega)
    have a4 : (x.pieces.flatMap bytesOf).length ≤ x.pieces.length * 1010 := flat_le bytesOf 1010 x.pieces (fun p hp => bytesOf_le p 1000 (h4 p hp) (by omega))
    have a5 := Kn.enc_len10 (n := x.pieces.length) (by omega)
    have a6 := encI_le (z := x.acked) ⟨by omega, by omega⟩
    have hb : ∀ t, (bit t).length = 1 := fun t => rfl
    unfold encE
    simp only [List.length_append, hb]
    have : x.pieces.length * 1010 ≤ 80 * 1010 := Nat.mul_le_mul_right _ (by omega)
    omega
  have a1 := flat_le encO 220 s.owners (fun x hx => by
    have := bytesOf_le x.page 200 (hw.os x hx).1 (by omega)
    have := encI_le (hw.os x hx).2
    unfold encO; rw [List.length_append]; omega)
  have a2 := flat_le encE 100000 s.entries hE
  have h1 := hs.owners
  have h2 := hs.entries
  have b1 : s.owners.length * 220 ≤ 80 * 220 := Nat.mul_le_mul_right _ (by omega)
  have b2 : s.entries.length * 100000 ≤ 80 * 100000 := Nat.mul_le_mul_right _ (by omega)
  have c1 := Kn.enc_len10 (n := s.owners.length) (by omega)
  have c2 := Kn.enc_len10 (n := s.entries.length) (by omega)
  unfold encS
  simp only [List.length_append]
  omega
/-- Two states that share no block, and rows beside them. -/
structure Twin (w W : World) (b b2 : Nat) (sA sB : State) (L : List (Value × List Value)) : Prop where
  ne : b ≠ b2
  ex : ∃ F F2, Own stateR w W b 0 sA F ∧ Own stateR w W b2 0 sB F2 ∧ b ∉ F2 ∧ b2 ∉ F ∧ (∀ k ∈ F, k ∉ F2) ∧
    ∀ p ∈ L, (∃ e n, RowAt W e 1 p.1 n p.2) ∧ ∀ k, p.1.ownBlock = some k → k ≠ b ∧ k ≠ b2 ∧ k ∉ F ∧ k ∉ F2
theorem Twin.chg {w W : World} {b b2 : Nat} {sA sB : State} {L : List (Value × List Value)} (h : Twin w W b b2 sA sB L) : Chg (fun _ => False) w W := by
  obtain ⟨F, F2, h1, -⟩ := h.ex
  exact h1.chg
theorem Twin.still {w W W' : World} {b b2 : Nat} {sA sB : State} {L : List (Value × List Value)} (h : Twin w W b b2 sA sB L) (hc : Chg (fun _ => False) W W') : Twin w W' b b2 sA sB L := by
  obtain ⟨F, F2, h1, h2, h3, h4, h5, h6⟩ := h.ex
  exact ⟨h.ne, F, F2, h1.still hc, h2.still hc, h3, h4, h5, fun p hp => by
    obtain ⟨⟨e, n, hr⟩, hk⟩ := h6 p hp
    exact ⟨⟨e, n, hr.chg hc (fun _ _ x => x)⟩, hk⟩⟩
theorem Twin.swap {w W : World} {b b2 : Nat} {sA sB : State} {L : List (Value × List Value)} (h : Twin w W b b2 sA sB L) : Twin w W b2 b sB sA L := by
  obtain ⟨F, F2, h1, h2, h3, h4, h5, h6⟩ := h.ex
  exact ⟨h.ne.symm, F2, F, h2, h1, h4, h3, fun k hk hk2 => h5 k hk2 hk, fun p hp => by
    obtain ⟨hr, hk⟩ := h6 p hp
    exact ⟨hr, fun k hb => ⟨(hk k hb).2.1, (hk k hb).1, (hk k hb).2.2.2, (hk k hb).2.2.1⟩⟩⟩
theorem Twin.less {w W : World} {b b2 : Nat} {sA sB : State} {L L' : List (Value × List Value)} (h : Twin w W b b2 sA sB L) (hl : ∀ p ∈ L', p ∈ L) : Twin w W b b2 sA sB L' := by
  obtain ⟨F, F2, h1, h2, h3, h4, h5, h6⟩ := h.ex
  exact ⟨h.ne, F, F2, h1, h2, h3, h4, h5, fun p hp => h6 p (hl p hp)⟩
theorem Twin.seen {w W : World} {b b2 : Nat} {sA sB : State} {L : List (Value × List Value)} (h : Twin w W b b2 sA sB L) {v : Value} {xs : List Value} (hm : (v, xs) ∈ L) : Seen W v xs := by
  obtain ⟨F, F2, h1, h2, h3, h4, h5, h6⟩ := h.ex
  obtain ⟨⟨e, n, hr⟩, -⟩ := h6 _ hm
  exact .ofRow hr
theorem RowAt.blockLt {w : World} {e size : Nat} {v : Value} {n : Nat} {xs : List Value} (h : RowAt w e size v n xs) (k : Nat) (hk : v.ownBlock = some k) : k < w.heap.size := by
  rcases h.2 with hn | ⟨g, off, cap, cur, rfl, hg, -⟩
  · rw [hn.1] at hk; simp [Value.ownBlock] at hk
  · simp [Value.ownBlock] at hk
    subst hk; exact lt_of_block hg
/-- A call on the first of two states. -/
theorem Twin.do_ {w W : World} {b b2 : Nat} {sA sB : State} {L : List (Value × List Value)} (h : Twin w W b b2 sA sB L) (x : COp) (n : Nat) (hn : n ≤ 1000) (hx : COpOk x) (hs : Small sA n) :
    Calls Try.prog 22 #[.pointer (some ⟨b, 0, none⟩), .agg x.cells.toArray] W fun e w' =>
      ∃ vl vn, e = .returned (.agg #[.int .i64 (doM sA x).1.e, vl, .bool (doM sA x).1.done, vn]) ∧
        Twin w w' b b2 (doM sA x).2 sB ((vl, (doM sA x).1.l.map Value.string) :: (vn, (doM sA x).1.n.map (Value.int .i64)) :: L) := by
  obtain ⟨F, F2, h1, h2, h3, h4, h5, h6⟩ := h.ex
  refine (do_any W b 0 sA F x n hn hx hs h1.here).mono ?_
  rintro e w' ⟨vl, vn, F', rfl, hh, hst, rl, rn, hown⟩
  refine ⟨vl, vn, rfl, h.ne, F', F2, h1.step hh hst, ?_, h3, ?_, ?_, ?_⟩
  · have hc := hst.chg
    refine ⟨h2.here.apart hst h.ne.symm h4 h3 (fun k hk hk2 => h5 k hk2 hk), (h1.step hh hst).chg, h2.lo, h2.los⟩
  · intro hk
    rcases hst.new _ hk with hk | hk
    · exact h4 hk
    · have := h2.here.lt.1; omega
  · intro k hk hk2
    rcases hst.new _ hk with hk | hk
    · exact h5 k hk hk2
    · have := h2.here.lt.2 k hk2; omega
  · have hb := h1.here.lt.1
    have hb2 := h2.here.lt.1
    intro p hp
    simp only [List.mem_cons] at hp
    rcases hp with rfl | rfl | hp
    · exact ⟨⟨_, _, rl⟩, fun k hk => by
        obtain ⟨a1, a2⟩ := hown k (.inl hk)
        exact ⟨by omega, by omega, a2, fun hk2 => by have := h2.here.lt.2 k hk2; omega⟩⟩
    · exact ⟨⟨_, _, rn⟩, fun k hk => by
        obtain ⟨a1, a2⟩ := hown k (.inr hk)
        exact ⟨by omega, by omega, a2, fun hk2 => by have := h2.here.lt.2 k hk2; omega⟩⟩
    · obtain ⟨⟨e, m, hr⟩, hk⟩ := h6 p hp
      refine ⟨⟨e, m, hr.chg hst.chg (fun k hb3 x => ?_)⟩, fun k hb3 => ?_⟩
      · have := hk k hb3
        rcases x with x | x
        · exact this.1 x
        · exact this.2.2.1 x
      · have := hk k hb3
        refine ⟨this.1, this.2.1, fun hk4 => ?_, this.2.2.2⟩
        rcases hst.new _ hk4 with hk5 | hk5
        · exact this.2.2.1 hk5
        · have := hr.blockLt k hb3; omega
end Go.Proofs.Ytaacafdlklnegaa
