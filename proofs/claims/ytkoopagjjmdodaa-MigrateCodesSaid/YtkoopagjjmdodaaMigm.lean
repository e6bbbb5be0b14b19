/-
  What is decoded is encoded as it was, and the other way round (plain laws of layer 54).
-/
import Derived.Test.YtkoopagjjmdodaaMigk
namespace Go.Proofs.Ytkoopagjjmdodaa
open Go.RowKit
set_option linter.unusedVariables false

/-- What was read from p to q. -/
structure Got (s : ByteArray) (p q : Nat) (bs : List UInt8) : Prop where
  le : p ≤ q
  fits : q ≤ s.size
  eq : bs = (s.data.toList.drop p).take (q - p)
theorem Got.app {s : ByteArray} {p q r : Nat} {a b : List UInt8} (h : Got s p q a) (k : Got s q r b) : Got s p r (a ++ b) := by
  refine ⟨Nat.le_trans h.le k.le, k.fits, ?_⟩
  rw [h.eq, k.eq, show q = p + (q - p) from by have := h.le; omega, ← List.drop_drop]
  rw [show p + (q - p) - p = q - p from by omega, show r - (p + (q - p)) = (r - p) - (q - p) from by have := h.le; have := k.le; omega]
  have h1 : List.take (r - p) (s.data.toList.drop p) = List.take (q - p + (r - p - (q - p))) (s.data.toList.drop p) := by
    congr 1; have := h.le; have := k.le; omega
  rw [h1, List.take_add]
theorem rI_err {s : ByteArray} {r : RS} (h : (rI s r).2.2 = 0) : r.2 = 0 := by
  apply Classical.byContradiction
  intro he
  rw [rI, rU_err s r.1 r.2 he] at h
  exact he h
theorem rT_err {s : ByteArray} {r : RS} (h : (rT s r).2.2 = 0) : r.2 = 0 := by
  apply Classical.byContradiction
  intro he
  rw [rT, rS_err s r.1 r.2 he] at h
  exact he h
theorem rI_back {s : ByteArray} {r : RS} {p : Nat} (hr : r = ((p : Int), 0)) (hp : p ≤ s.size) (h : (rI s r).2.2 = 0) : ∃ q : Nat, (rI s r).2 = ((q : Int), 0) ∧ Got s p q (Kn.enc (Kn.zig (rI s r).1)) := by
  subst hr
  obtain ⟨q, h1, h2, h3, h4⟩ := rU_back s p hp h
  exact ⟨q, Prod.ext h1 h, h2, h3, by show Kn.enc (Kn.zig (Kn.unzig _)) = _; rw [Kn.zig_unzig]; exact h4⟩
theorem rT_back {s : ByteArray} {r : RS} {p : Nat} (hr : r = ((p : Int), 0)) (hp : p ≤ s.size) (h : (rT s r).2.2 = 0) : ∃ q : Nat, (rT s r).2 = ((q : Int), 0) ∧ Got s p q (bytesOf (rT s r).1) := by
  subst hr
  obtain ⟨q, h1, h2, h3, h4⟩ := rS_back s p hp h
  exact ⟨q, Prod.ext h1 h, h2, h3, h4⟩
theorem rI_step {s : ByteArray} {r r' : RS} {k : Int} (h : rI s r = (k, r')) (he : r'.2 = 0) : r.2 = 0 ∧ I64 k ∧ ∀ p : Nat, r = ((p : Int), 0) → p ≤ s.size → ∃ q : Nat, r' = ((q : Int), 0) ∧ Got s p q (Kn.enc (Kn.zig k)) := by
  have h1 : (rI s r).1 = k := by rw [h]
  have h2 : (rI s r).2 = r' := by rw [h]
  rw [← h2] at he ⊢
  rw [← h1]
  exact ⟨rI_err he, Kn.unzig_lo (rU_lt s r.1 r.2), fun p hr hp => rI_back hr hp he⟩
theorem rT_step {s : ByteArray} {r r' : RS} {k : ByteArray} (h : rT s r = (k, r')) (he : r'.2 = 0) : r.2 = 0 ∧ k.size ≤ s.size ∧ ∀ p : Nat, r = ((p : Int), 0) → p ≤ s.size → ∃ q : Nat, r' = ((q : Int), 0) ∧ Got s p q (bytesOf k) := by
  have h1 : (rT s r).1 = k := by rw [h]
  have h2 : (rT s r).2 = r' := by rw [h]
  rw [← h2] at he ⊢
  rw [← h1]
  exact ⟨rT_err he, rT_size s r, fun p hr hp => rT_back hr hp he⟩
theorem decR_steps (s : ByteArray) : ∃ k1 r1 k2 r2 k3 r3 k4 r4 k5 r5 k6 r6 k7 r7 k8 r8, rI s (0, 0) = (k1, r1) ∧ rI s r1 = (k2, r2) ∧ rI s r2 = (k3, r3) ∧ rT s r3 = (k4, r4) ∧ rI s r4 = (k5, r5) ∧ rI s r5 = (k6, r6) ∧ rI s r6 = (k7, r7) ∧ rT s r7 = (k8, r8) ∧
    decR s = (⟨k1, k2, k3, k4, k5, k6, k7, k8⟩, r8) := by
  obtain ⟨⟨k1, r1⟩, h1⟩ : ∃ x, rI s (0, 0) = x := ⟨_, rfl⟩
  obtain ⟨⟨k2, r2⟩, h2⟩ : ∃ x, rI s r1 = x := ⟨_, rfl⟩
  obtain ⟨⟨k3, r3⟩, h3⟩ : ∃ x, rI s r2 = x := ⟨_, rfl⟩
  obtain ⟨⟨k4, r4⟩, h4⟩ : ∃ x, rT s r3 = x := ⟨_, rfl⟩
  obtain ⟨⟨k5, r5⟩, h5⟩ : ∃ x, rI s r4 = x := ⟨_, rfl⟩
  obtain ⟨⟨k6, r6⟩, h6⟩ : ∃ x, rI s r5 = x := ⟨_, rfl⟩
  obtain ⟨⟨k7, r7⟩, h7⟩ : ∃ x, rI s r6 = x := ⟨_, rfl⟩
  obtain ⟨⟨k8, r8⟩, h8⟩ : ∃ x, rT s r7 = x := ⟨_, rfl⟩
  exact ⟨k1, r1, k2, r2, k3, r3, k4, r4, k5, r5, k6, r6, k7, r7, k8, r8, h1, h2, h3, h4, h5, h6, h7, h8, by unfold decR; simp only [h1, h2, h3, h4, h5, h6, h7, h8]⟩
/-- What is decoded is well formed, and is encoded as the bytes that were read. -/
theorem decode_back (s : ByteArray) (hs : s.size ≤ 9223372036854775807) (h : (decodeM s).2 = 0) : formedB (decodeM s).1 = true ∧ MsgOk (decodeM s).1 ∧ encM (decodeM s).1 = s.data.toList := by
  obtain ⟨k1, r1, k2, r2, k3, r3, k4, r4, k5, r5, k6, r6, k7, r7, k8, r8, h1, h2, h3, h4, h5, h6, h7, h8, hR⟩ := decR_steps s
  unfold decodeM at h ⊢
  rw [hR] at h ⊢
  by_cases hb : r8.2 ≠ 0 ∨ r8.1 ≠ s.size ∨ formedB ⟨k1, k2, k3, k4, k5, k6, k7, k8⟩ = false
  · rw [if_pos hb] at h; cases h
  rw [if_neg hb]
  have e8 : r8.2 = 0 := Classical.byContradiction fun x => hb (.inl x)
  have hz : r8.1 = s.size := Classical.byContradiction fun x => hb (.inr (.inl x))
  have hf : formedB ⟨k1, k2, k3, k4, k5, k6, k7, k8⟩ = true := by rw [← Bool.not_eq_false]; exact fun x => hb (.inr (.inr x))
  obtain ⟨e7, z8, s8⟩ := rT_step h8 e8
  obtain ⟨e6, i7, s7⟩ := rI_step h7 e7
  obtain ⟨e5, i6, s6⟩ := rI_step h6 e6
  obtain ⟨e4, i5, s5⟩ := rI_step h5 e5
  obtain ⟨e3, z4, s4⟩ := rT_step h4 e4
  obtain ⟨e2, i3, s3⟩ := rI_step h3 e3
  obtain ⟨e1, i2, s2⟩ := rI_step h2 e2
  obtain ⟨e0, i1, s1⟩ := rI_step h1 e1
  obtain ⟨q1, a1, g1⟩ := s1 0 rfl (Nat.zero_le _)
  obtain ⟨q2, a2, g2⟩ := s2 q1 a1 g1.fits
  obtain ⟨q3, a3, g3⟩ := s3 q2 a2 g2.fits
  obtain ⟨q4, a4, g4⟩ := s4 q3 a3 g3.fits
  obtain ⟨q5, a5, g5⟩ := s5 q4 a4 g4.fits
  obtain ⟨q6, a6, g6⟩ := s6 q5 a5 g5.fits
  obtain ⟨q7, a7, g7⟩ := s7 q6 a6 g6.fits
  obtain ⟨q8, a8, g8⟩ := s8 q7 a7 g7.fits
  refine ⟨hf, ⟨i1, i2, i3, i5, i6, i7, Nat.le_trans z4 hs, Nat.le_trans z8 hs⟩, ?_⟩
  have hq : q8 = s.size := by
    rw [a8] at hz
    simp only at hz
    omega
  subst hq
  have hall := ((((((g1.app g2).app g3).app g4).app g5).app g6).app g7).app g8
  have hl : s.data.toList.length = s.size := by simp
  have he := hall.eq
  rw [List.drop_zero, Nat.sub_zero, List.take_of_length_le (by omega)] at he
  unfold encM
  rw [← he]
  simp [encs]

theorem restSplit {s : ByteArray} {p : Nat} {a r : List UInt8} (hp : p ≤ s.size) (h : s.data.toList.drop p = a ++ r) : p + a.length ≤ s.size ∧ s.data.toList.drop (p + a.length) = r := by
  have h2 := congrArg List.length h
  have hl : s.data.toList.length = s.size := by simp
  rw [List.length_drop, hl, List.length_append] at h2
  refine ⟨by omega, ?_⟩
  rw [← List.drop_drop, h, List.drop_left]
theorem rI_enc (s : ByteArray) (p : Nat) (n : Int) (r : List UInt8) (hp : p ≤ s.size) (hn : I64 n) (h : s.data.toList.drop p = Kn.enc (Kn.zig n) ++ r) : rI s ((p : Int), 0) = (n, ((p + (Kn.enc (Kn.zig n)).length : Nat) : Int), 0) := by
  unfold rI
  simp only
  rw [rU_enc s p (Kn.zig n) r hp (Kn.zig_lt hn.1 hn.2) h]
  simp only [Kn.unzig_zig hn.1 hn.2]
theorem rT_enc (s t : ByteArray) (p : Nat) (r : List UInt8) (hp : p ≤ s.size) (hn : t.size ≤ 9223372036854775807) (h : s.data.toList.drop p = bytesOf t ++ r) : rT s ((p : Int), 0) = (t, ((p + (bytesOf t).length : Nat) : Int), 0) := by
  unfold rT
  simp only
  rw [rS_enc s t p r hp (by omega) (by rw [h, bytesOf, List.append_assoc])]
  simp [bytesOf, Nat.add_assoc]
/-- A well-formed message is decoded from its bytes. -/
theorem decode_enc (m : Msg) (hm : MsgOk m) (hf : formedB m = true) : decodeM ⟨(encM m).toArray⟩ = (m, 0) := by
  generalize hs : (⟨(encM m).toArray⟩ : ByteArray) = s
  have h0 : s.data.toList.drop 0 = Kn.enc (Kn.zig m.kind) ++ (Kn.enc (Kn.zig m.frm) ++ (Kn.enc (Kn.zig m.dst) ++ (bytesOf m.page ++ (Kn.enc (Kn.zig m.epoch) ++ (Kn.enc (Kn.zig m.index) ++ (Kn.enc (Kn.zig m.count) ++ (bytesOf m.data ++ []))))))) := by
    rw [← hs]; simp [encM, encs]
  obtain ⟨k1, r1, k2, r2, k3, r3, k4, r4, k5, r5, k6, r6, k7, r7, k8, r8, h1, h2, h3, h4, h5, h6, h7, h8, hR⟩ := decR_steps s
  have p0 : 0 ≤ s.size := Nat.zero_le _
  have a1 := rI_enc s 0 _ _ p0 hm.kind h0
  obtain ⟨p1, d1⟩ := restSplit p0 h0
  have a2 := rI_enc s _ _ _ p1 hm.frm d1
  obtain ⟨p2, d2⟩ := restSplit p1 d1
  have a3 := rI_enc s _ _ _ p2 hm.dst d2
  obtain ⟨p3, d3⟩ := restSplit p2 d2
  have a4 := rT_enc s _ _ _ p3 hm.page d3
  obtain ⟨p4, d4⟩ := restSplit p3 d3
  have a5 := rI_enc s _ _ _ p4 hm.epoch d4
  obtain ⟨p5, d5⟩ := restSplit p4 d4
  have a6 := rI_enc s _ _ _ p5 hm.index d5
  obtain ⟨p6, d6⟩ := restSplit p5 d5
  have a7 := rI_enc s _ _ _ p6 hm.count d6
  obtain ⟨p7, d7⟩ := restSplit p6 d6
  have a8 := rT_enc s _ _ _ p7 hm.data d7
  obtain ⟨p8, d8⟩ := restSplit p7 d7
  rw [show (((0 : Nat) : Int), (0 : Int)) = ((0 : Int), (0 : Int)) from rfl, h1] at a1
  obtain ⟨rfl, rfl⟩ := Prod.mk.inj a1
  rw [h2] at a2
  obtain ⟨rfl, rfl⟩ := Prod.mk.inj a2
  rw [h3] at a3
  obtain ⟨rfl, rfl⟩ := Prod.mk.inj a3
  rw [h4] at a4
  obtain ⟨rfl, rfl⟩ := Prod.mk.inj a4
  rw [h5] at a5
  obtain ⟨rfl, rfl⟩ := Prod.mk.inj a5
  rw [h6] at a6
  obtain ⟨rfl, rfl⟩ := Prod.mk.inj a6
  rw [h7] at a7
  obtain ⟨rfl, rfl⟩ := Prod.mk.inj a7
  rw [h8] at a8
  obtain ⟨rfl, rfl⟩ := Prod.mk.inj a8
  unfold decodeM
  rw [hR]
  have hl : s.data.toList.length = s.size := by simp
  have hd := congrArg List.length d8
  rw [List.length_drop, List.length_nil] at hd
  rw [if_neg]
  rintro (x | x | x)
  · exact x rfl
  · apply x
    show (((_ : Nat) : Int)) = _
    have : ∀ a : Nat, a ≤ s.size → s.data.toList.length - a = 0 → (a : Int) = (s.size : Int) := by intro a ha hb; omega
    exact this _ p8 hd
  · rw [show (⟨m.kind, m.frm, m.dst, m.page, m.epoch, m.index, m.count, m.data⟩ : Msg) = m from rfl, hf] at x
    cases x
end Go.Proofs.Ytkoopagjjmdodaa
