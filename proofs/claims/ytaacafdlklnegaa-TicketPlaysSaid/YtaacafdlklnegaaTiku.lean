/-
  Reachable states are well formed and of a size that is written (plain laws of layer 53).
-/
import Derived.Test.YtaacafdlklnegaaTikt
namespace Go.Proofs.Ytaacafdlklnegaa
open Go.RowKit
set_option linter.unusedVariables false

theorem nodup_at {α β : Type} {f : α → β} {l : List α} (h : (l.map f).Nodup) {i j : Nat} (hi : i < l.length) (hj : j < l.length) (he : f l[i] = f l[j]) : i = j := by
  have h1 := List.getElem_inj (xs := l.map f) (i := i) (j := j) (h₀ := by simpa using hi) (h₁ := by simpa using hj) h
  exact h1.1 (by simpa using he)
theorem Formed.allOk {s : State} (h : Formed s) : AllOk s := by
  have hl : s.sent.length = s.entries.length := by rw [h.sent, List.length_map]
  refine ⟨hl, fun k hk => ?_, fun k hk => ?_⟩
  · obtain ⟨h1, h2⟩ := h.owner _ (List.getElem_mem hk)
    obtain ⟨j, hj, -⟩ := findO_self s k hk
    obtain ⟨h3, -, h4⟩ := findO_some hj
    simp only [Nat.sub_zero] at h3 h4
    obtain rfl := nodup_at (f := (·.page)) h.owners h3 hk h4
    exact ⟨h1, h2, hj⟩
  · obtain ⟨h1, h2, h3, h4⟩ := h.each _ (List.getElem_mem hk)
    obtain ⟨j, hj, -⟩ := findE_self s k hk
    obtain ⟨h5, -, h6, h7⟩ := findE_some hj
    simp only [Nat.sub_zero] at h5 h6 h7
    obtain rfl := nodup_at (f := key) h.keys h5 hk (by unfold key; rw [h6, h7])
    exact ⟨h1, h2, h3, h4, by rw [h.sent]; simp [hk], hj⟩
/-- Numbers and strings of a state are of a size that is tried. -/
structure Wee (s : State) : Prop where
  os : ∀ x ∈ s.owners, x.page.size ≤ 200 ∧ I64 x.epoch
  es : ∀ x ∈ s.entries, x.page.size ≤ 200 ∧ I64 x.number ∧ x.request.size ≤ 1000 ∧ ∀ p ∈ x.pieces, p.size ≤ 1000
theorem bytesOf_le (s : ByteArray) (n : Nat) (h : s.size ≤ n) (hn : n ≤ 1000) : (bytesOf s).length ≤ n + 10 := by
  have := Kn.enc_len10 (n := s.size) (by omega)
  have h2 : s.data.toList.length = s.size := by simp
  rw [bytesOf, List.length_append]; omega
theorem encI_le {z : Int} (h : I64 z) : (encI z).length ≤ 10 := Kn.enc_len10 (Kn.zig_lt h.lo h.hi)
theorem flat_le {α : Type} (f : α → List UInt8) (n : Nat) : ∀ (l : List α), (∀ x ∈ l, (f x).length ≤ n) → (l.flatMap f).length ≤ l.length * n
  | [], _ => by simp
  | a :: l, h => by
    have := flat_le f n l (fun x hx => h x (List.mem_cons_of_mem _ hx))
    have h1 := h a (List.mem_cons_self ..)
    rw [List.flatMap_cons, List.length_append, List.length_cons, Nat.add_mul]; omega
theorem Wee.enc {s : State} (h : Wee s) {n : Nat} (hs : Small s n) (hn : n ≤ 1000) : EncOk s := by
  have hE : ∀ x ∈ s.entries, (encE x).length ≤ 2011302 := fun x hx => by
    obtain ⟨h1, h2, h3, h4⟩ := h.es x hx
    obtain ⟨h5, h6⟩ := hs.each x hx
    have a1 := bytesOf_le x.page 200 h1 (by omega)
    have a2 := encI_le h2
    have a3 := bytesOf_le x.request 1000 h3 (by omega)
    have a4 : (x.pieces.flatMap bytesOf).length ≤ x.pieces.length * 1010 := flat_le bytesOf 1010 x.pieces (fun p hp => bytesOf_le p 1000 (h4 p hp) (by omega))
    have a5 := Kn.enc_len10 (n := x.pieces.length) (by omega)
    have a6 := encI_le (z := x.acked) ⟨by omega, by omega⟩
    have hb : ∀ t, (bit t).length = 1 := fun t => rfl
    unfold encE
    simp only [List.length_append, hb]
    have : x.pieces.length * 1010 ≤ 1000 * 1010 := Nat.mul_le_mul_right _ (by omega)
    omega
  refine ⟨fun x hx => (h.os x hx).2, fun x hx => ?_, ?_⟩
  · have := hs.each x hx
    exact ⟨(h.es x hx).2.1, ⟨by omega, by omega⟩⟩
  · have a1 := flat_le encO 220 s.owners (fun x hx => by
      have := bytesOf_le x.page 200 (h.os x hx).1 (by omega)
      have := encI_le (h.os x hx).2
      unfold encO; rw [List.length_append]; omega)
    have a2 := flat_le encE 2011302 s.entries hE
    have h1 := hs.owners
    have h2 := hs.entries
    have b1 : s.owners.length * 220 ≤ 1000 * 220 := Nat.mul_le_mul_right _ (by omega)
    have b2 : s.entries.length * 2011302 ≤ 1000 * 2011302 := Nat.mul_le_mul_right _ (by omega)
    have c1 := Kn.enc_len10 (n := s.owners.length) (by omega)
    have c2 := Kn.enc_len10 (n := s.entries.length) (by omega)
    unfold encS
    simp only [List.length_append]
    omega
structure Reach (s : State) (n : Nat) : Prop where
  small : Small s n
  formed : Formed s
  wee : Wee s
theorem reach_new : Reach newState 0 := ⟨⟨by simp [newState], by simp [newState], by simp [newState], by simp [newState]⟩, formed_new, ⟨by simp [newState], by simp [newState]⟩⟩
theorem Reach.enc {s : State} {n : Nat} (h : Reach s n) (hn : n ≤ 1000) : EncOk s := h.wee.enc h.small hn
theorem Reach.mono {s : State} {n m : Nat} (h : Reach s n) (hm : n ≤ m) : Reach s m := ⟨h.small.mono hm, h.formed, h.wee⟩
theorem Wee.setE {s : State} (h : Wee s) {j : Nat} {x : Entry} (hx : x.page.size ≤ 200 ∧ I64 x.number ∧ x.request.size ≤ 1000 ∧ ∀ p ∈ x.pieces, p.size ≤ 1000) : Wee (s.setE j x) :=
  ⟨h.os, fun y hy => by
    rcases List.mem_or_eq_of_mem_set hy with h1 | h1
    · exact h.es y h1
    · subst h1; exact hx⟩
theorem Wee.claim {s : State} (h : Wee s) (page : ByteArray) (e : Int) (he : I64 e) (hp : page.size ≤ 200) : Wee (claimM s page e).2 := by
  unfold claimM
  split
  · exact h
  · split
    · refine ⟨fun x hx => ?_, h.es⟩
      rcases List.mem_append.1 hx with hx | hx
      · exact h.os x hx
      · simp only [List.mem_singleton] at hx; subst hx; exact ⟨hp, he⟩
    · rename_i i hf
      split
      · exact h
      · have hi := findO_lt _ _ _ _ hf
        have hi' : i < s.owners.length := by omega
        have hg : s.owners.getD i noOwner = s.owners[i] := by simp [List.getD_eq_getElem?_getD, hi']
        rw [hg]
        refine ⟨fun x hx => ?_, h.es⟩
        rcases List.mem_or_eq_of_mem_set hx with h1 | h1
        · exact h.os x h1
        · subst h1; exact ⟨(h.os _ (List.getElem_mem hi')).1, he⟩
theorem Wee.ask {s : State} (h : Wee s) (page : ByteArray) (e n : Int) (r : ByteArray) (hn : I64 n) (hp : page.size ≤ 200) (hr : r.size ≤ 1000) : Wee (askM s page e n r).2 := by
  unfold askM
  split
  · exact h
  · split
    · exact h
    · split
      · split <;> exact h
      · split
        · exact h
        · refine ⟨h.os, fun x hx => ?_⟩
          rcases List.mem_append.1 hx with hx | hx
          · exact h.es x hx
          · simp only [List.mem_singleton] at hx; subst hx
            exact ⟨hp, hn, hr, by simp⟩
theorem Wee.do_ {s : State} (h : Wee s) (o : COp) (ho : COpOk o) (ht : o.text.size ≤ 1000) : Wee (doM s o).2 := by
  have hp : o.name.size ≤ 200 := by unfold COp.name; rw [pageN_size]; omega
  have h1 := ho.epoch
  have h2 := ho.number
  unfold doM
  split
  · exact h.claim _ _ ⟨by omega, by omega⟩ hp
  · exact h.ask _ _ _ _ ⟨by omega, by omega⟩ hp ht
  · show Wee (feedM s o.name o.number o.text).2
    unfold feedM
    cases hr : (runningM s o.name o.number).1 with
    | none => exact h
    | some j =>
      obtain ⟨hj, -⟩ := runningM_some hr
      simp only [getE hj]
      have := h.es _ (List.getElem_mem hj)
      split
      · exact h
      · refine h.setE ⟨this.1, this.2.1, this.2.2.1, fun p hq => ?_⟩
        rcases List.mem_append.1 hq with hq | hq
        · exact this.2.2.2 p hq
        · simp only [List.mem_singleton] at hq; subst hq; exact ht
  · show Wee (endM s o.name o.number).2
    unfold endM
    cases hr : (runningM s o.name o.number).1 with
    | none => exact h
    | some j =>
      obtain ⟨hj, -⟩ := runningM_some hr
      simp only [getE hj]
      have := h.es _ (List.getElem_mem hj)
      exact h.setE ⟨this.1, this.2.1, this.2.2.1, this.2.2.2⟩
  · exact h
  · show Wee (ackM s o.name o.epoch o.number o.at_).2
    unfold ackM
    cases hr : (fromM s o.name o.epoch o.number o.at_).1 with
    | none => exact h
    | some j =>
      obtain ⟨hj, -⟩ := fromM_some hr
      simp only [getE hj]
      have := h.es _ (List.getElem_mem hj)
      exact h.setE ⟨this.1, this.2.1, this.2.2.1, fun p hq => this.2.2.2 p (List.mem_of_mem_drop hq)⟩
  · show Wee (closeM s o.name o.epoch o.number).2
    unfold closeM
    cases hr : (openM s o.name o.epoch o.number).1 with
    | none => exact h
    | some j =>
      obtain ⟨hj, -⟩ := openM_some hr
      simp only [getE hj]
      have := h.es _ (List.getElem_mem hj)
      exact h.setE ⟨this.1, this.2.1, this.2.2.1, by simp⟩
  · exact h
theorem Reach.do_ {s : State} {n : Nat} (h : Reach s n) (o : COp) (ho : COpOk o) (ht : o.text.size ≤ 1000) : Reach (doM s o).2 (n + 1) :=
  ⟨h.small.do_ o, h.formed.do_ o, h.wee.do_ o ho ht⟩
/-- The states behind the first calls. -/
def runM (ops : List COp) (k : Nat) : State := (ops.take k).foldl (fun s o => (doM s o).2) newState
theorem runM_zero (ops : List COp) : runM ops 0 = newState := rfl
theorem runM_succ (ops : List COp) (k : Nat) (h : k < ops.length) : runM ops (k + 1) = (doM (runM ops k) ops[k]).2 := by
  unfold runM
  rw [List.take_succ_eq_append_getElem h, List.foldl_append]
  rfl
theorem reach_run (ops : List COp) (ho : ∀ o ∈ ops, COpOk o) (ht : ∀ o ∈ ops, o.text.size ≤ 1000) (k : Nat) (hk : k ≤ ops.length) : Reach (runM ops k) k := by
  induction k with
  | zero => exact reach_new
  | succ k ih =>
    rw [runM_succ ops k (by omega)]
    exact (ih (by omega)).do_ _ (ho _ (List.getElem_mem _)) (ht _ (List.getElem_mem _))
theorem few_text {ops : List COp} {m : Nat} (h : fewB ops m = true) : ops.length ≤ m ∧ ∀ o ∈ ops, o.text.size ≤ 1000 := by
  unfold fewB at h
  simp only [Bool.and_eq_true, decide_eq_true_eq, List.all_eq_true] at h
  exact ⟨h.1, fun o ho => by have := h.2 o ho; omega⟩
end Go.Proofs.Ytaacafdlklnegaa
