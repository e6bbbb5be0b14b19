/-
  A page that travels through three machines: each trip ends with its letter at the machine to which it was handed.
-/
import Derived.Test.YtkoopagjjmdodaaProt
namespace Go.Proofs.Ytkoopagjjmdodaa
open Go.RowKit
set_option linter.unusedVariables false
set_option linter.unusedSimpArgs false

/-- A trip. -/
abbrev tL (at_ to_ i : Nat) (letter : ByteArray) : Trip := ⟨⟨#[112]⟩, (at_ : Int), (to_ : Int), (i : Int) + 2, letter⟩
/-- Before a trip. -/
structure LB (i at_ : Nat) (d : Wd) : Prop where
  a3 : at_ < 3
  way : d.way = []
  hosts : ∀ j, j < 3 → ∃ s, Sim ⟨#[112]⟩ (d.host j) j (preOf j) s ∧ (d.host j).out = [] ∧ (j = at_ → ∃ x, s = some x ∧ x.state = 1 ∧ x.epoch = (i : Int) + 1 ∧ x.refuses = []) ∧ (j ≠ at_ → ∀ x, s = some x → x.state = 5 ∧ x.epoch < (i : Int) + 2 ∧ x.refuses = [])
  bd : WdB (1 + 2000 * i) 0 0 d
theorem LB.start : LB 0 0 wd0 := by
  refine ⟨by omega, rfl, fun j hj => ?_, wd0_in⟩
  obtain ⟨s, h1, h2, h3, h4⟩ := wd0_hosts ⟨⟨#[112]⟩, 0, 1, 2, ⟨#[]⟩⟩ rfl rfl j hj
  refine ⟨s, h1, h2, fun h => ?_, fun h x hx => ?_⟩
  · obtain ⟨x, k1, k2, k3, k4⟩ := h3 h
    have k3 : x.epoch + 1 = 2 := k3
    exact ⟨x, k1, k2, by show x.epoch = ((0 : Nat) : Int) + 1; omega, k4⟩
  · obtain ⟨k1, k2⟩ := h4 h
    obtain ⟨q1, q2, q3⟩ := k1 x hx
    have q2 : x.epoch < 2 := q2
    exact ⟨q1, by show x.epoch < ((0 : Nat) : Int) + 2; omega, k2 x hx⟩
/-- During a trip. -/
structure LM (i at_ to_ : Nat) (letter : ByteArray) (k : Nat) (d : Wd) : Prop where
  ex : ∃ σ ρ, WI (tL at_ to_ i letter) at_ to_ False σ ρ d
  lite : wts d.way ≤ 12
  bd : WdB (2 + 2000 * i + k) (100000 + 3 * k) 0 d
section
variable {i at_ to_ k : Nat} {letter : ByteArray} {d : Wd}
theorem LB.begin (B : LB i at_ d) (ht : to_ < 3) (hne : at_ ≠ to_) (hz : letter.size < 5000) :
    (handM (d.host at_) ⟨#[112]⟩ letter (to_ : Int)).1 = 0 ∧ LM i at_ to_ letter 0 (collectM (d.put at_ (handM (d.host at_) ⟨#[112]⟩ letter (to_ : Int)).2)) := by
  have hP := partsL_length _ letter (Nat.le_refl _)
  have R : Rest (tL at_ to_ i letter) at_ to_ d := by
    refine ⟨⟨by show 1 ≤ 1 ∧ 1 ≤ 200; omega, by show (0 : Int) ≤ (at_ : Int); omega, by show (0 : Int) ≤ (to_ : Int); omega, by show (at_ : Int) ≠ (to_ : Int); omega, by show (2 : Int) ≤ (i : Int) + 2; omega, by show (partsL letter).length ≤ _; omega⟩, B.a3, ht, hne, rfl, rfl, by show letter.size ≤ _; omega, B.way, fun j hj => ?_⟩
    obtain ⟨s, h1, h2, h3, h4⟩ := B.hosts j hj
    refine ⟨s, h1, h2, fun h => ?_, fun h => ⟨fun x hx => ?_, fun x hx => (h4 h x hx).2.2⟩⟩
    · obtain ⟨x, k1, k2, k3, k4⟩ := h3 h
      exact ⟨x, k1, k2, by show x.epoch + 1 = (i : Int) + 2; omega, k4⟩
    · obtain ⟨q1, q2, q3⟩ := h4 h x hx
      exact ⟨q1, q2, by rw [q3]; simp⟩
  obtain ⟨h1, h2, h3⟩ := R.begin
  refine ⟨h1, ⟨_, _, h2⟩, ?_, ?_⟩
  · have h4 := wts_msgs (tL at_ to_ i letter)
    rw [← h3] at h4
    have h5 : (tL at_ to_ i letter).L.length ≤ letter.size / 1000 + 1 := hP
    have h6 : wts (collectM (d.put at_ (handM (d.host at_) ⟨#[112]⟩ letter (to_ : Int)).2)).way = 2 + 2 * (tL at_ to_ i letter).L.length := h4
    omega
  · have h4 := hand_in (page := ⟨#[112]⟩) (letter := letter) (dst := (to_ : Int)) (by decide) (by omega) (by omega) (B.bd.host at_)
    exact (B.bd.put at_ h4 (by omega) (by omega)).collect.mono (by omega) (by omega) (Nat.le_refl _)
theorem LM.still (M : LM i at_ to_ letter k d) : runsM (d.host at_) ⟨#[112]⟩ = (0, false) := by
  obtain ⟨σ, ρ, W⟩ := M.ex
  exact W.runsA.2 (fun h => W.link.wdr (.inr (.inl h)))
theorem LM.lose (M : LM i at_ to_ letter k d) {j : Nat} (hj : j < d.way.length) : LM i at_ to_ letter (k + 1) { d with way := d.way.take j ++ d.way.drop (j + 1) } := by
  obtain ⟨σ, ρ, W⟩ := M.ex
  have hw := wts_cut d.way j hj
  have hl := M.lite
  refine ⟨⟨σ, ρ, W.lose (fun x hx => mem_cut hx)⟩, by show wts (_ ++ _) ≤ 12; omega, ?_⟩
  exact (M.bd.cut (by have := M.bd.len; rw [List.length_append, List.length_take, List.length_drop]; omega) (fun x hx => mem_cut hx)).mono (by omega) (by omega) (Nat.le_refl _)
theorem LM.deliver (M : LM i at_ to_ letter k d) {j : Nat} (hj : j < d.way.length) : 0 ≤ d.way[j].dst ∧ d.way[j].dst < 3 ∧ LM i at_ to_ letter (k + 1) (collectM (recvW { d with way := d.way.take j ++ d.way.drop (j + 1) } d.way[j])) := by
  obtain ⟨σ, ρ, W⟩ := M.ex
  have hm := List.getElem_mem hj
  have hw := wts_cut d.way j hj
  have hl := M.lite
  have ha := W.a3
  have hb := W.b3
  have hdst : 0 ≤ d.way[j].dst ∧ d.way[j].dst < 3 := by
    obtain ⟨-, -, h⟩ := (W.ways _ hm).dest
    rcases h with ⟨-, h⟩ | ⟨-, h⟩
    · rw [h, W.tb]; omega
    · rw [h, W.ta]; omega
  obtain ⟨σ', ρ', out, W', h1, h2⟩ := W.deliver hm (l := d.way.take j ++ d.way.drop (j + 1)) (fun x hx => mem_cut hx)
  have hlt := h2.light
  refine ⟨hdst.1, hdst.2, ⟨σ', ρ', W'⟩, by rw [h1, wts_append]; omega, ?_⟩
  have hc := M.bd.cut (l := d.way.take j ++ d.way.drop (j + 1)) (by have := M.bd.len; rw [List.length_append, List.length_take, List.length_drop]; omega) (fun x hx => mem_cut hx)
  exact (hc.recv (M.bd.ways _ hm)).collect.mono (by omega) (by omega) (Nat.le_refl _)
theorem LM.final (M : LM i at_ to_ letter k d) (hk : k ≤ 8) (hi : i ≤ 6) (hz : letter.size < 5000) : LB (i + 1) to_ (quietM d 3) ∧ letterM ((quietM d 3).host to_) ⟨#[112]⟩ = (letter, true) ∧ runsM ((quietM d 3).host to_) ⟨#[112]⟩ = ((i : Int) + 2, true) := by
  obtain ⟨σ, ρ, W⟩ := M.ex
  have hl := M.lite
  have hP := partsL_length _ letter (Nat.le_refl _)
  have hbd := M.bd.quiet 20000 3 (by omega)
  obtain ⟨σ', ρ', W', hw, h⟩ := W.quiet (by omega) (by show (partsL letter).length ≤ 16; omega)
  generalize quietM d 3 = dq at *
  rcases h with ⟨rfl, rfl⟩ | ⟨rfl, rfl⟩
  · obtain ⟨r1, r2⟩ := W'.runsB.1 rfl
    refine ⟨⟨W'.b3, hw, fun j hj => ?_, ?_⟩, r2, r1⟩
    · obtain ⟨s, h1, h2, h3⟩ := W'.hosts j hj
      have hnr := h3.nr (fun h => h)
      refine ⟨s, h1, h2, fun h => ?_, fun h x hx => ?_⟩
      · obtain ⟨x, hx, hr⟩ := h3.rcv h
        exact ⟨x, hx, hr.st, by rw [hr.ep]; show (i : Int) + 2 = ((i + 1 : Nat) : Int) + 1; omega, hnr x hx⟩
      · by_cases ha : j = at_
        · obtain ⟨y, hy, h5, h6⟩ := h3.snd ha
          rw [hx] at hy
          cases hy
          have h6 : x.epoch = (i : Int) + 2 := h6
          exact ⟨h5, by rw [h6]; show (i : Int) + 2 < ((i + 1 : Nat) : Int) + 2; omega, hnr x hx⟩
        · obtain ⟨q1, q2, -⟩ := h3.third ha h x hx
          have q2 : x.epoch < (i : Int) + 2 := q2
          exact ⟨q1, by show x.epoch < ((i + 1 : Nat) : Int) + 2; omega, hnr x hx⟩
    · have h5 := hbd.mono (n' := 1 + 2000 * (i + 1)) (by omega) (Nat.le_refl _) (Nat.le_refl 0)
      exact ⟨h5.h0, h5.h1, h5.h2, by rw [hw]; exact Nat.le_refl _, h5.ways⟩
  · exact (W'.link.wdr (.inr (.inl rfl))).elim
theorem LB.other (B : LB i at_ d) : letterM (d.host 1) ⟨#[113]⟩ = (⟨#[]⟩, false) := by
  obtain ⟨s, h1, -⟩ := B.hosts 1 (by omega)
  have hs : (d.host 1).seats = newSeat ⟨#[113]⟩ :: s.toList := h1.seats
  unfold letterM
  have hf : findS ⟨#[113]⟩ (newSeat ⟨#[113]⟩ :: s.toList) 0 = some 0 := findS_self _ _ _ rfl
  rw [hs, hf]
  rfl
end
end Go.Proofs.Ytkoopagjjmdodaa
