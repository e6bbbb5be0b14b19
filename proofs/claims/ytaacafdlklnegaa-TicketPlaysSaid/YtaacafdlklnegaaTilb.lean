/-
  What is decoded is encoded as the bytes that were read (plain laws of layer 53).
-/
import Derived.Test.YtaacafdlklnegaaTila
import Derived.Test.YtaacafdlklnegaaBackE
namespace Go.Proofs.Ytaacafdlklnegaa
open Go.RowKit
set_option linter.unusedVariables false

/-- What was read from p to q. -/
structure Got (s : ByteArray) (p q : Nat) (bs : List UInt8) : Prop where
  le : p ≤ q
  fits : q ≤ s.size
  eq : bs = (s.data.toList.drop p).take (q - p)
theorem Got.app {s : ByteArray} {p q r : Nat} {a b : List UInt8} (h : Got s p q a) (k : Got s q r b) : Got s p r (a ++ b) := by
  refine ⟨Nat.le_trans h.le k.le, k.fits, ?_⟩
  rw [h.eq, k.eq, show q = p + (q - p) from by have := h.le; omega, ← List.drop_drop]
  rw [show p + (q - p) - p = q - p from by omega, show r - (p + (q - p)) = (r - p) - (q - p) from by have := h.le; have := k.le; omega]
  have h1 : List.take (r - p) (s.data.toList.drop p) = List.take (q - p + (r - p - (q - p))) (s.data.toList.drop p) := by
    congr 1; have := h.le; have := k.le; omega
  rw [h1, List.take_add]
theorem Got.nil (s : ByteArray) (p : Nat) (h : p ≤ s.size) : Got s p p [] := ⟨Nat.le_refl _, h, by simp⟩
/-- A reading whose result is encoded as the bytes that were read. -/
def Back {α : Type} (s : ByteArray) (f : RS → α × RS) (enc : α → List UInt8) (ok : α → Prop) : Prop :=
  ∀ r, (f r).2.2 = 0 → r.2 = 0 ∧ ok (f r).1 ∧ ∀ p : Nat, r = ((p : Int), 0) → p ≤ s.size → ∃ q : Nat, (f r).2 = ((q : Int), 0) ∧ Got s p q (enc (f r).1)
theorem rT_b (s : ByteArray) : Back s (rT s) bytesOf (fun x => x.size ≤ s.size) := by
  intro r h
  have he : r.2 = 0 := by
    apply Classical.byContradiction
    intro he
    have h2 : rS s r.1 r.2 = (ByteArray.empty, r.1, r.2) := by rw [rS, if_neg he]
    rw [rT, h2] at h
    exact he h
  refine ⟨he, rT_size s r, fun p hr hp => ?_⟩
  subst hr
  obtain ⟨q, h1, h2, h3, h4⟩ := rS_back s p hp h
  exact ⟨q, Prod.ext h1 h, h2, h3, h4⟩
theorem rI_b (s : ByteArray) : Back s (rI s) encI (fun z => I64 z) := by
  intro r h
  have he : r.2 = 0 := by
    apply Classical.byContradiction
    intro he
    have h2 : rU s r.1 r.2 = (0, r.1, r.2) := by rw [rU, if_neg he]
    rw [rI, h2] at h
    exact he h
  have hu := Kn.unzig_lo (rU_lt s r.1 r.2)
  refine ⟨he, ⟨hu.1, hu.2⟩, fun p hr hp => ?_⟩
  subst hr
  obtain ⟨q, h1, h2, h3, h4⟩ := rU_back s p hp h
  exact ⟨q, Prod.ext h1 h, h2, h3, by show Kn.enc (Kn.zig (Kn.unzig _)) = _; rw [Kn.zig_unzig]; exact h4⟩
theorem rO_b (s : ByteArray) : Back s (rO s) bit (fun _ => True) := by
  intro r h
  have he : r.2 = 0 := by
    apply Classical.byContradiction
    intro he
    have h2 : rB s r.1 r.2 = (false, r.1, r.2) := by rw [rB, if_neg he]
    rw [rO, h2] at h
    exact he h
  refine ⟨he, trivial, fun p hr hp => ?_⟩
  subst hr
  obtain ⟨q, h1, h2, h3, h4⟩ := rB_back s p hp h
  exact ⟨q, Prod.ext h1 h, h2, h3, h4⟩
theorem rN_b (s : ByteArray) (m : Int) (hm : 0 ≤ m) : Back s (rN s m) Kn.enc (fun n => (n : Int) ≤ m) := by
  intro r h
  have he : r.2 = 0 := by
    apply Classical.byContradiction
    intro he
    have h2 : rC s r.1 r.2 m = (0, r.1, r.2) := by rw [rC, if_neg he]
    rw [rN, h2] at h
    exact he h
  refine ⟨he, rN_le s m r hm, fun p hr hp => ?_⟩
  subst hr
  obtain ⟨q, h1, h2, h3, h4, -⟩ := rC_back s p m hm hp h
  exact ⟨q, Prod.ext h1 h, h2, h3, h4⟩
theorem rMany_b {α : Type} {s : ByteArray} {f : RS → α × RS} {enc : α → List UInt8} {ok : α → Prop} (h : Back s f enc ok) (n : Nat) : Back s (rMany f n) (fun l => l.flatMap enc) (fun l => l.length = n ∧ ∀ x ∈ l, ok x) := by
  induction n with
  | zero => intro r he; exact ⟨he, ⟨rfl, by simp [rMany]⟩, fun p hr hp => ⟨p, hr, Got.nil s p hp⟩⟩
  | succ n ih =>
    intro r he
    rw [rMany] at he ⊢
    by_cases h0 : r.2 = 0
    · rw [if_pos h0] at he ⊢
      obtain ⟨k1, ⟨k2, k3⟩, k4⟩ := ih _ he
      obtain ⟨j1, j2, j3⟩ := h r k1
      refine ⟨h0, ⟨by simp [k2], ?_⟩, fun p hr hp => ?_⟩
      · intro x hx
        rcases List.mem_cons.1 hx with e | e
        · rw [e]; exact j2
        · exact k3 x e
      · obtain ⟨q, a1, a2⟩ := j3 p hr hp
        obtain ⟨q', b1, b2⟩ := k4 q a1 a2.fits
        refine ⟨q', b1, ?_⟩
        show Got s p q' (((f r).1 :: (rMany f n (f r).2).1).flatMap enc)
        rw [List.flatMap_cons]
        exact a2.app b2
    · rw [if_neg h0] at he
      exact absurd he h0
theorem decO_b (s : ByteArray) : Back s (decO s) encO (fun x => I64 x.epoch) := by
  intro r he
  have he' : (rI s (rT s r).2).2.2 = 0 := he
  obtain ⟨a1, a2, a3⟩ := rI_b s _ he'
  obtain ⟨b1, b2, b3⟩ := rT_b s r a1
  refine ⟨b1, a2, fun p hr hp => ?_⟩
  obtain ⟨q, c1, c2⟩ := b3 p hr hp
  obtain ⟨q', d1, d2⟩ := a3 q c1 c2.fits
  exact ⟨q', d1, c2.app d2⟩
theorem decE_b (s : ByteArray) (most : Int) (hm : 0 ≤ most) : Back s (decE s most) encE (fun x => EncE x) := by
  intro r he
  obtain ⟨⟨p1, r1⟩, h1⟩ : ∃ x, rT s r = x := ⟨_, rfl⟩
  obtain ⟨⟨n2, r2⟩, h2⟩ : ∃ x, rI s r1 = x := ⟨_, rfl⟩
  obtain ⟨⟨q3, r3⟩, h3⟩ : ∃ x, rT s r2 = x := ⟨_, rfl⟩
  obtain ⟨⟨c4, r4⟩, h4⟩ : ∃ x, rN s most r3 = x := ⟨_, rfl⟩
  obtain ⟨⟨l5, r5⟩, h5⟩ : ∃ x, rMany (rT s) c4 r4 = x := ⟨_, rfl⟩
  obtain ⟨⟨a6, r6⟩, h6⟩ : ∃ x, rI s r5 = x := ⟨_, rfl⟩
  obtain ⟨⟨e7, r7⟩, h7⟩ : ∃ x, rO s r6 = x := ⟨_, rfl⟩
  obtain ⟨⟨d8, r8⟩, h8⟩ : ∃ x, rO s r7 = x := ⟨_, rfl⟩
  have hD : decE s most r = (⟨p1, n2, q3, l5, a6, e7, d8⟩, r8) := by simp only [decE, h1, h2, h3, h4, h5, h6, h7, h8]
  rw [hD] at he ⊢
  have s8 := rO_b s r7; rw [h8] at s8
  obtain ⟨e7', -, g8⟩ := s8 he
  have s7 := rO_b s r6; rw [h7] at s7
  obtain ⟨e6', -, g7⟩ := s7 e7'
  have s6 := rI_b s r5; rw [h6] at s6
  obtain ⟨e5', i6, g6⟩ := s6 e6'
  have s5 := rMany_b (rT_b s) c4 r4; rw [h5] at s5
  obtain ⟨e4', ⟨i5, -⟩, g5⟩ := s5 e5'
  have s4 := rN_b s most hm r3; rw [h4] at s4
  obtain ⟨e3', -, g4⟩ := s4 e4'
  have s3 := rT_b s r2; rw [h3] at s3
  obtain ⟨e2', -, g3⟩ := s3 e3'
  have s2 := rI_b s r1; rw [h2] at s2
  obtain ⟨e1', i2, g2⟩ := s2 e2'
  have s1 := rT_b s r; rw [h1] at s1
  obtain ⟨e0', -, g1⟩ := s1 e1'
  refine ⟨e0', ⟨i2, i6⟩, fun p hr hp => ?_⟩
  obtain ⟨t1, a1, b1⟩ := g1 p hr hp
  obtain ⟨t2, a2, b2⟩ := g2 t1 a1 b1.fits
  obtain ⟨t3, a3, b3⟩ := g3 t2 a2 b2.fits
  obtain ⟨t4, a4, b4⟩ := g4 t3 a3 b3.fits
  obtain ⟨t5, a5, b5⟩ := g5 t4 a4 b4.fits
  obtain ⟨t6, a6', b6⟩ := g6 t5 a5 b5.fits
  obtain ⟨t7, a7, b7⟩ := g7 t6 a6' b6.fits
  obtain ⟨t8, a8, b8⟩ := g8 t7 a7 b7.fits
  refine ⟨t8, a8, ?_⟩
  have := ((((((b1.app b2).app b3).app b4).app b5).app b6).app b7).app b8
  show Got s p t8 (encE ⟨p1, n2, q3, l5, a6, e7, d8⟩)
  unfold encE
  dsimp only at i5 this ⊢
  rw [i5]
  exact this
theorem decS_back (s : ByteArray) (h : Good s) (hs : s.size ≤ 100000000) : encS (decS s).1 = s.data.toList ∧ EncOk (decS s).1 := by
  obtain ⟨g1, g2, g3⟩ := h
  obtain ⟨⟨c1, r1⟩, h1⟩ : ∃ x, rN s (s.size : Int) (0, 0) = x := ⟨_, rfl⟩
  obtain ⟨⟨os, r2⟩, h2⟩ : ∃ x, rMany (decO s) c1 r1 = x := ⟨_, rfl⟩
  obtain ⟨⟨c2, r3⟩, h3⟩ : ∃ x, rN s (s.size : Int) r2 = x := ⟨_, rfl⟩
  obtain ⟨⟨es, r4⟩, h4⟩ : ∃ x, rMany (decE s (s.size : Int)) c2 r3 = x := ⟨_, rfl⟩
  have hD : decS s = (⟨os, es, es.map (·.request)⟩, r4) := by simp only [decS, h1, h2, h3, h4]
  rw [hD] at g1 g2 g3 ⊢
  dsimp only at g1 g2
  have s4 := rMany_b (decE_b s (s.size : Int) (by omega)) c2 r3; rw [h4] at s4
  obtain ⟨e3, ⟨i4, j4⟩, k4⟩ := s4 g1
  have s3 := rN_b s (s.size : Int) (by omega) r2; rw [h3] at s3
  obtain ⟨e2, -, k3⟩ := s3 e3
  have s2 := rMany_b (decO_b s) c1 r1; rw [h2] at s2
  obtain ⟨e1, ⟨i2, j2⟩, k2⟩ := s2 e2
  have s1 := rN_b s (s.size : Int) (by omega) (0, 0); rw [h1] at s1
  obtain ⟨-, -, k1⟩ := s1 e1
  obtain ⟨t1, a1, b1⟩ := k1 0 rfl (Nat.zero_le _)
  obtain ⟨t2, a2, b2⟩ := k2 t1 a1 b1.fits
  obtain ⟨t3, a3, b3⟩ := k3 t2 a2 b2.fits
  obtain ⟨t4, a4, b4⟩ := k4 t3 a3 b3.fits
  dsimp only at a4 i2 i4 j2 j4
  have ht4 : t4 = s.size := by
    rw [a4] at g2
    simp only at g2
    omega
  subst ht4
  have hall := ((b1.app b2).app b3).app b4
  have hl : s.data.toList.length = s.size := by simp
  have he := hall.eq
  rw [List.drop_zero, Nat.sub_zero, List.take_of_length_le (by omega)] at he
  have hE : encS ⟨os, es, es.map (·.request)⟩ = s.data.toList := by
    rw [← he]
    unfold encS
    dsimp only
    rw [i2, i4]
  refine ⟨hE, ⟨j2, j4, ?_⟩⟩
  rw [hE, hl]; omega
end Go.Proofs.Ytaacafdlklnegaa
