/-
  A page that is handed over, of whose messages one is lost.
-/
import Derived.Test.YtkoopagjjmdodaaPlc
import Derived.Test.YtkoopagjjmdodaaMigh
namespace Go.Proofs.Ytkoopagjjmdodaa
open Go.RowKit
set_option linter.unusedVariables false
set_option linter.unusedSimpArgs false
set_option linter.unusedSectionVars false

def Trip.msgs (t : Trip) : List Msg := t.offer :: (List.range t.L.length).map t.part
theorem Trip.msgs_length (t : Trip) : t.msgs.length = 1 + t.L.length := by unfold Trip.msgs; simp; omega
theorem Trip.msgs_zero (t : Trip) (h : 0 < t.msgs.length) : t.msgs[0] = t.offer := rfl
theorem Trip.msgs_succ (t : Trip) (i : Nat) (h : i + 1 < t.msgs.length) : t.msgs[i + 1] = t.part i := by
  have e : t.msgs[i + 1]? = (t.offer :: (List.range t.L.length).map t.part)[i + 1]? := rfl
  rw [List.getElem?_eq_getElem h, List.getElem?_cons_succ, List.getElem?_map, List.getElem?_range (by rw [t.msgs_length] at h; omega)] at e
  exact Option.some.inj e
theorem partMsgs_eq (t : Trip) (s : Seat) (h1 : s.peer = t.b) (h2 : s.page = t.pg) (h3 : s.epoch = t.e) : ∀ (l : List ByteArray) (k : Nat), t.L.drop k = l → partMsgs t.a s t.L.length l k = (List.range' k l.length).map t.part
  | [], k, _ => rfl
  | u :: l, k, h => by
    have hk : k < t.L.length := by
      rcases Nat.lt_or_ge k t.L.length with x | x
      · exact x
      · rw [List.drop_of_length_le x] at h; cases h
    rw [List.drop_eq_getElem_cons hk] at h
    injection h with e1 e2
    rw [partMsgs, partMsgs_eq t s h1 h2 h3 l (k + 1) e2, List.length_cons, List.range'_succ, List.map_cons]
    congr 1
    unfold Trip.part
    rw [h1, h2, h3, List.getD_eq_getElem?_getD, List.getElem?_eq_getElem hk, ← e1]
    rfl
theorem Trip.sent (t : Trip) (s : Seat) (h1 : s.peer = t.b) (h2 : s.page = t.pg) (h3 : s.epoch = t.e) : offerMsg t.a s t.L.length :: partMsgs t.a s t.L.length t.L 0 = t.msgs := by
  rw [partMsgs_eq t s h1 h2 h3 t.L 0 rfl, List.range_eq_range'.symm]
  unfold Trip.msgs offerMsg Trip.offer
  rw [h1, h2, h3]
theorem Trip.msgIn (t : Trip) (T : t.Ok) (n : Nat) (hn : t.e ≤ n) : ∀ m ∈ t.msgs, MsgIn n m := by
  have h2 := T.e
  have h3 := T.pg
  intro m hm
  rcases List.mem_cons.1 hm with rfl | hm
  · exact ⟨by show 0 ≤ t.e; omega, hn, h3.2, by show 0 ≤ 1000; omega⟩
  · obtain ⟨i, hi, rfl⟩ := List.mem_map.1 hm
    rw [List.mem_range] at hi
    refine ⟨by show 0 ≤ t.e; omega, hn, h3.2, ?_⟩
    show (t.L.getD i ⟨#[]⟩).size ≤ _
    rw [List.getD_eq_getElem?_getD, List.getElem?_eq_getElem hi]
    exact partsL_each _ _ (Nat.le_refl _) _ (List.getElem_mem _)

/-- The receiver behind i messages, of which the one with the number k is lost. -/
def lostAt (h : Host) (l : List Msg) (k : Nat) : Nat → Host
  | 0 => h
  | i + 1 => if i = k then lostAt h l k i else receiveM (lostAt h l k i) (l.getD i ⟨0, 0, 0, ⟨#[]⟩, 0, 0, 0, ⟨#[]⟩⟩)
def hvAt (P k i : Nat) : List Bool := (List.range P).map fun j => decide (j + 1 < i ∧ j + 1 ≠ k)
theorem hvAt_length (P k i : Nat) : (hvAt P k i).length = P := by simp [hvAt]
theorem hvAt_get (P k i j : Nat) (hj : j < P) : (hvAt P k i)[j]? = some (decide (j + 1 < i ∧ j + 1 ≠ k)) := by
  unfold hvAt
  rw [List.getElem?_map, List.getElem?_range hj]
  rfl
theorem hvAt_one (P k : Nat) : hvAt P k 1 = List.replicate P false := by
  refine List.ext_getElem? fun j => ?_
  by_cases hj : j < P
  · rw [hvAt_get P k 1 j hj, List.getElem?_replicate, if_pos hj]
    simp
  · rw [List.getElem?_eq_none (by rw [hvAt_length]; omega), List.getElem?_eq_none (by simp; omega)]
theorem hvAt_set (P k i : Nat) (hi : 1 ≤ i) (hP : i ≤ P) (hk : i ≠ k) : (hvAt P k i).set (i - 1) true = hvAt P k (i + 1) := by
  refine List.ext_getElem? fun j => ?_
  by_cases hj : j < P
  · by_cases hij : i - 1 = j
    · subst hij
      rw [List.getElem?_set_self (by rw [hvAt_length]; exact hj), hvAt_get P k (i + 1) _ hj]
      congr 1
      exact (decide_eq_true ⟨by omega, by omega⟩).symm
    · rw [List.getElem?_set_ne hij, hvAt_get P k i j hj, hvAt_get P k (i + 1) j hj]
      congr 1
      rw [decide_eq_decide]
      constructor
      · rintro ⟨a, b⟩; exact ⟨by omega, b⟩
      · rintro ⟨a, b⟩; exact ⟨by omega, b⟩
  · rw [List.getElem?_eq_none (by rw [List.length_set, hvAt_length]; omega), List.getElem?_eq_none (by rw [hvAt_length]; omega)]
theorem hvAt_skip (P k : Nat) : hvAt P k (k + 1) = hvAt P k k := by
  unfold hvAt
  refine List.map_congr_left fun j _ => ?_
  rw [decide_eq_decide]
  constructor
  · rintro ⟨a, b⟩; exact ⟨by omega, b⟩
  · rintro ⟨a, b⟩; exact ⟨by omega, b⟩
theorem hvAt_not (P k i : Nat) (h : (1 ≤ k ∧ k ≤ P) ∨ (i ≤ P ∧ 1 ≤ P)) : (hvAt P k i).contains false = true := by
  rw [List.contains_iff_mem]
  rcases h with h | h
  · have := hvAt_get P k i (k - 1) (by omega)
    rw [show decide (k - 1 + 1 < i ∧ k - 1 + 1 ≠ k) = false from decide_eq_false (by omega)] at this
    exact List.mem_of_getElem? this
  · have := hvAt_get P k i (P - 1) (by omega)
    rw [show decide (P - 1 + 1 < i ∧ P - 1 + 1 ≠ k) = false from decide_eq_false (by omega)] at this
    exact List.mem_of_getElem? this
theorem hvAt_all (P : Nat) : (hvAt P 0 (P + 1)).contains false = false := by
  cases h : (hvAt P 0 (P + 1)).contains false with
  | false => rfl
  | true =>
    rw [List.contains_iff_mem] at h
    obtain ⟨j, hj, he⟩ := List.mem_map.1 h
    rw [List.mem_range] at hj
    have := of_decide_eq_false he
    exact absurd ⟨by omega, by omega⟩ this
theorem missing_none : ∀ (l : List Bool) (m : Nat), (∀ j : Nat, l[j]? ≠ some false) → missing l m = []
  | [], _, _ => rfl
  | true :: l, m, h => by rw [missing]; exact missing_none l (m + 1) (fun j => by have := h (j + 1); simpa using this)
  | false :: l, m, h => absurd rfl (h 0)
theorem missing_get : ∀ (l : List Bool) (n q : Nat), l[q]? = some false → (∀ j : Nat, j ≠ q → l[j]? ≠ some false) → missing l n = [n + q]
  | [], _, _, h, _ => by simp at h
  | true :: l, n, 0, h, _ => by simp at h
  | false :: l, n, q + 1, _, h2 => absurd rfl (h2 0 (by omega))
  | true :: l, n, q + 1, h, h2 => by
    rw [missing, missing_get l (n + 1) q (by simpa using h) (fun j hj => by have := h2 (j + 1) (by omega); simpa using this)]
    congr 1
    omega
  | false :: l, n, 0, _, h2 => by
    rw [missing]
    have : missing l (n + 1) = [] := missing_none l (n + 1) fun j => by have := h2 (j + 1) (by omega); simpa using this
    rw [this, Nat.add_zero]
theorem hvAt_missing (P k : Nat) (h1 : 1 ≤ k) (h2 : k ≤ P) : missing (hvAt P k (P + 1)) 0 = [k - 1] := by
  have := missing_get (hvAt P k (P + 1)) 0 (k - 1) (by rw [hvAt_get _ _ _ _ (by omega)]; congr 1; exact decide_eq_false (by omega)) (fun j hj he => by
    by_cases hjP : j < P
    · rw [hvAt_get _ _ _ _ hjP] at he
      simp only [Option.some.injEq] at he
      exact of_decide_eq_false he ⟨by omega, by omega⟩
    · rw [List.getElem?_eq_none (by rw [hvAt_length]; omega)] at he
      cases he)
  rw [this, Nat.zero_add]

section
variable {t : Trip} (T : t.Ok) {k : Nat} (hk : k ≤ t.L.length)
/-- Behind i messages. -/
def LostQ (t : Trip) (k i : Nat) (h : Host) : Prop :=
  ((i = 0 ∨ i = 1 ∧ k = 0) ∧ Sim t.pg h t.b [] none ∧ h.out = []) ∨
  (¬ (i = 0 ∨ i = 1 ∧ k = 0) ∧ ¬ (k = 0 ∧ i = t.L.length + 1) ∧ ∃ x, Sim t.pg h t.b [] (some x) ∧ t.Recv x (hvAt t.L.length k i) ∧ h.out = []) ∨
  ((k = 0 ∧ i = t.L.length + 1) ∧ ∃ x, Sim t.pg h t.b [] (some x) ∧ t.Run x ∧ h.out = [t.taken])
include T hk
theorem lost_step (h : Host) (i : Nat) (hi : i ≤ t.L.length) (H : LostQ t k i h) (hik : i ≠ k) (him : i < t.msgs.length) : LostQ t k (i + 1) (receiveM h t.msgs[i]) := by
  have hP := t.pos
  have hpage : t.msgs[i].page = t.pg := by
    cases i with
    | zero => rfl
    | succ j => rw [t.msgs_succ]; rfl
  rcases H with ⟨h0, hs, ho⟩ | ⟨h0, h1, x, hs, R, ho⟩ | ⟨h0, -⟩
  · obtain ⟨s1, s2⟩ := recv_sim hs hpage
    have hF : t.Fresh (none : Option Seat) := fun x hx => by cases hx
    rcases h0 with rfl | ⟨rfl, rfl⟩
    · rw [t.msgs_zero] at s1 s2 ⊢
      obtain ⟨y, e, R⟩ := T.freshOffer hF
      rw [e] at s1 s2
      refine .inr (.inl ⟨by omega, by omega, y, s1, ?_, by rw [s2, ho]; rfl⟩)
      rw [show hvAt t.L.length k (0 + 1) = _ from hvAt_one _ _]
      exact R
    · rw [t.msgs_succ] at s1 s2 ⊢
      obtain ⟨y, R, e⟩ := T.freshPart hF (i := 0) (by omega)
      rw [e] at s1 s2
      rcases R.part (i := 0) (by omega) with ⟨-, c⟩ | ⟨-, z, ⟨c1, c2, c3⟩ | ⟨c1, c2, c3⟩⟩
      · rw [List.getElem?_replicate, if_pos (by omega)] at c
        cases c
      · rw [c1] at s1 s2
        rw [← hvAt_one _ 0, show (0 : Nat) = 1 - 1 from rfl, hvAt_set _ _ 1 (by omega) (by omega) (by omega)] at c2 c3
        refine .inr (.inl ⟨by omega, fun hx => ?_, z, s1, c2, by rw [s2, ho]; rfl⟩)
        have : t.L.length = 1 := by omega
        rw [this] at c3
        rw [hvAt_all 1] at c3
        cases c3
      · rw [c1] at s1 s2
        rw [← hvAt_one _ 0, show (0 : Nat) = 1 - 1 from rfl, hvAt_set _ _ 1 (by omega) (by omega) (by omega)] at c3
        refine .inr (.inr ⟨⟨rfl, ?_⟩, z, s1, c2, by rw [s2, ho]; rfl⟩)
        rcases Nat.lt_or_ge 1 t.L.length with q | q
        · rw [hvAt_not _ _ _ (.inr ⟨by omega, by omega⟩)] at c3
          cases c3
        · omega
  · obtain ⟨s1, s2⟩ := recv_sim hs hpage
    obtain ⟨j, rfl⟩ : ∃ j, i = j + 1 := ⟨i - 1, by omega⟩
    rw [t.msgs_succ] at s1 s2 ⊢
    rw [T.recvPart R (by omega)] at s1 s2
    rcases R.part (i := j) (by omega) with ⟨-, c⟩ | ⟨-, z, ⟨c1, c2, c3⟩ | ⟨c1, c2, c3⟩⟩
    · rw [hvAt_get _ _ _ _ (by omega)] at c
      simp only [Option.some.injEq] at c
      have := of_decide_eq_true c
      omega
    · rw [c1] at s1 s2
      have hset := hvAt_set t.L.length k (j + 1) (by omega) (by omega) hik
      rw [Nat.add_sub_cancel] at hset
      rw [hset] at c2 c3
      refine .inr (.inl ⟨by omega, fun hx => ?_, z, s1, c2, by rw [s2, ho]; rfl⟩)
      obtain ⟨rfl, e⟩ := hx
      rw [e, hvAt_all] at c3
      cases c3
    · rw [c1] at s1 s2
      have hset := hvAt_set t.L.length k (j + 1) (by omega) (by omega) hik
      rw [Nat.add_sub_cancel] at hset
      rw [hset] at c3
      have hk0 : k = 0 := by
        rcases Nat.eq_zero_or_pos k with q | q
        · exact q
        · rw [hvAt_not _ _ _ (.inl ⟨q, hk⟩)] at c3
          cases c3
      refine .inr (.inr ⟨⟨hk0, ?_⟩, z, s1, c2, by rw [s2, ho]; rfl⟩)
      rcases Nat.lt_or_ge (j + 1) t.L.length with q | q
      · rw [hvAt_not _ _ _ (.inr ⟨by omega, hP⟩)] at c3
        cases c3
      · omega
  · omega
theorem lost_skip (h : Host) (H : LostQ t k k h) : LostQ t k (k + 1) h := by
  have hP := t.pos
  rcases H with ⟨h0, hs, ho⟩ | ⟨h0, h1, x, hs, R, ho⟩ | ⟨h0, -⟩
  · exact .inl ⟨by omega, hs, ho⟩
  · exact .inr (.inl ⟨by omega, by omega, x, hs, by rw [hvAt_skip]; exact R, ho⟩)
  · omega
theorem lost_at : ∀ i, i ≤ t.L.length + 1 → LostQ t k i (lostAt (newHost t.b) t.msgs k i)
  | 0, _ => .inl ⟨.inl rfl, ⟨rfl, rfl, by simp, by simp⟩, rfl⟩
  | i + 1, hi => by
    have ih := lost_at i (by omega)
    have hl : i < t.msgs.length := by rw [t.msgs_length]; omega
    rw [lostAt]
    split
    · rename_i e
      subst e
      exact lost_skip T hk _ ih
    · rename_i e
      rw [List.getD_eq_getElem?_getD, List.getElem?_eq_getElem hl]
      exact lost_step T hk _ i (by omega) ih e hl
theorem lost_in : ∀ i, i ≤ t.L.length + 1 → HostIn (t.e.toNat + i) i (lostAt (newHost t.b) t.msgs k i)
  | 0, _ => ⟨Nat.le_refl _, by simp [lostAt, newHost], Nat.zero_le _, by simp [lostAt, newHost]⟩
  | i + 1, hi => by
    have ih := lost_in i (by omega)
    have hl : i < t.msgs.length := by rw [t.msgs_length]; omega
    rw [lostAt]
    split
    · exact ih.mono (by omega) (by omega)
    · rw [List.getD_eq_getElem?_getD, List.getElem?_eq_getElem hl]
      exact receive_in ih (Trip.msgIn t T (t.e.toNat + i) (by have := T.e; omega) _ (List.getElem_mem hl))
end
/-- What happens when one message is lost. -/
structure LostEnd (t : Trip) (k : Nat) (a b : Host) : Prop where
  aok : HostOk a
  bok : HostOk b
  bfew : b.out.length + b.seats.length * 16 < 1000000000
  b2ok : HostOk { tickM b with out := [] }
  none : k = 0 → runsM b t.pg = (t.e, true) ∧ (tickM b).out = [t.taken] ∧ (receiveM a t.taken).out = [] ∧ letterM { tickM b with out := [] } t.pg = (t.letter, true)
  some : 1 ≤ k → runsM b t.pg = (0, false) ∧ (tickM b).out = [t.need (k - 1)] ∧ (receiveM a (t.need (k - 1))).out = [t.part (k - 1)] ∧ letterM (receiveM { tickM b with out := [] } (t.part (k - 1))) t.pg = (t.letter, true)
theorem lost_end {t : Trip} (T : t.Ok) {k : Nat} (hk : k ≤ t.L.length) (he : t.e < 1000000) (hz : t.letter.size ≤ 16777216) (a : Host) {x : Seat} (ha : Sim t.pg a t.a [] (some x)) (hx : t.Off x 2) (hr : x.parts = [] ∧ x.have_ = [] ∧ x.refuses = []) (hao : a.out = []) :
    LostEnd t k a (lostAt (newHost t.b) t.msgs k (t.L.length + 1)) := by
  have hP := t.pos
  have hf := T.few
  have h2 := T.e
  have hin := lost_in T hk (t.L.length + 1) (Nat.le_refl _)
  have hat := lost_at T hk (t.L.length + 1) (Nat.le_refl _)
  generalize lostAt (newHost t.b) t.msgs k (t.L.length + 1) = b at *
  have hbs := hin.seats
  have hbo := hin.out
  refine ⟨?_, hin.ok (by omega) (by omega), by omega, ?_, fun h0 => ?_, fun h1 => ?_⟩
  · have hs := ha.seats
    rw [List.nil_append] at hs
    refine ⟨⟨by rw [hao]; show 0 < 1000000000; omega⟩, ⟨by rw [hs]; show 1 < 1000000000; omega⟩, fun y hy => ?_⟩
    rw [hs] at hy
    have : y = x := by simpa using hy
    subst this
    exact ⟨seatOk_nil hr.1 hr.2.1, by rw [hr.2.2]; show 0 < 1000000000; omega, by rw [hx.ep]; omega, ⟨by rw [hx.letter]; omega⟩⟩
  · have := (tick_in hin).mono (Nat.le_refl _) (Nat.le_refl _)
    have h3 : HostIn (t.e.toNat + (t.L.length + 1)) 0 { tickM b with out := [] } := ⟨Nat.le_refl _, by simp, this.seats, this.each⟩
    exact h3.ok (by omega) (by omega)
  · subst h0
    rcases hat with ⟨h0, -⟩ | ⟨h0, h1, -⟩ | ⟨-, y, hs, R, ho⟩
    · omega
    · omega
    · obtain ⟨s1, s2⟩ := tick_sim hs
      refine ⟨?_, ?_, ?_, ?_⟩
      · rw [runs_sim hs]
        simp only
        rw [if_pos R.st, R.ep]
      · rw [s2, ho]
        simp [tick_else (.inr (.inl R.st))]
      · rw [(recv_sim ha (m := t.taken) rfl).2, T.settled (.inl rfl), hao]
        rfl
      · rw [letter_sim (s1.out [])]
        simp only
        rw [if_pos ⟨R.st, by rw [R.ep]; omega⟩, R.letter]
  · rcases hat with ⟨h0, -⟩ | ⟨-, -, y, hs, R, ho⟩ | ⟨h0, -⟩
    · omega
    · obtain ⟨s1, s2⟩ := tick_sim hs
      have hm := hvAt_missing t.L.length k h1 hk
      have hlt : k - 1 < t.L.length := by omega
      refine ⟨?_, ?_, ?_, ?_⟩
      · rw [runs_sim hs]
        simp only
        rw [if_neg (by rw [R.st]; decide)]
      · rw [s2, ho]
        show [] ++ (tickS t.b y ++ []) = _
        rw [Trip.tickRecv R (hs.page y rfl), hm]
        rfl
      · rw [(recv_sim ha (m := t.need (k - 1)) rfl).2, T.needed hx hlt, hao]
        rfl
      · have s3 := (recv_sim (s1.out []) (m := t.part (k - 1)) rfl).1
        rw [T.recvPart R hlt] at s3
        rcases R.part hlt with ⟨-, c⟩ | ⟨-, z, ⟨c1, c2, c3⟩ | ⟨c1, c2, c3⟩⟩
        · rw [hvAt_get _ _ _ _ hlt] at c
          simp only [Option.some.injEq] at c
          have := of_decide_eq_true c
          omega
        · exfalso
          rw [List.contains_iff_mem] at c3
          obtain ⟨j, hj, hje⟩ := List.getElem_of_mem c3
          rw [List.length_set, hvAt_length] at hj
          by_cases hjk : k - 1 = j
          · subst hjk
            rw [List.getElem_set_self] at hje
            cases hje
          · rw [List.getElem_set_ne hjk] at hje
            have h5 := hvAt_get t.L.length k (t.L.length + 1) j hj
            rw [List.getElem?_eq_getElem (by rw [hvAt_length]; exact hj), hje] at h5
            simp only [Option.some.injEq] at h5
            exact of_decide_eq_false h5.symm ⟨by omega, by omega⟩
        · rw [c1] at s3
          rw [letter_sim s3]
          simp only
          rw [if_pos ⟨c2.st, by rw [c2.ep]; omega⟩, c2.letter]
    · omega
end Go.Proofs.Ytkoopagjjmdodaa
