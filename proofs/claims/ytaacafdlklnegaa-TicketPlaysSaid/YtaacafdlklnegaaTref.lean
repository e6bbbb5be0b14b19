/-
  The reference's side of layer 53 as plain data, and that the two sides answer alike (plain laws).
  The two sides of layer 53 answer alike: each call (plain laws).
  Copies: a whole row appended onto a row of one's own; a row in a field that is copied, lengthened and stored anew.
  The reference's side of layer 53 in memory; its searches and small functions.
  The reference's side of layer 53: open.
  The reference's side of layer 53: claim, ask; what its bytes are made of.
  The reference's side of layer 53: ask.
  Strings made of lists of bytes; how long pieces of a list are.
  The reference's side of layer 53: its bytes.
  The reference's side of layer 53: Do.
-/
import Derived.Test.YtaacafdlklnegaaTilc
import Derived.Test.YtaacafdlklnegaaHoldd
import Derived.Test.YtaacafdlklnegaaPlainb
import Derived.Test.YtaacafdlklnegaaReadb
import Derived.Deep.CutBlock
import Derived.Deep.RegionHeld3
import Derived.WalkKit
import Derived.Test.YtaacafdlklnegaaLater
import Derived.Test.YtaacafdlklnegaaTile
import Derived.Test.YtaacafdlklnegaaTiko
namespace Go.Proofs.Ytaacafdlklnegaa
open Go.RowKit
set_option linter.unusedVariables false

structure REntry where
  page : Nat
  number : Int
  request : ByteArray
  all : List ByteArray
  acked : Int
  ended : Bool
  closed : Bool
structure RWorld where
  ep : Nat → Int
  order : List Nat
  l : List REntry
def upd (f : Nat → Int) (p : Nat) (y : Int) : Nat → Int := fun i => if i = p then y else f i
def noR : REntry := ⟨0, 0, ⟨#[]⟩, [], 0, false, false⟩
def findR (p : Nat) (n : Int) : List REntry → Nat → Option Nat
  | [], _ => none
  | x :: l, k => if ((x.page == p) && (x.number == n)) = true then some k else findR p n l (k + 1)
def rIdx : Option Nat → Int
  | none => -1
  | some k => (k : Int)
def servedR (r : RWorld) (p : Nat) (e : Int) : Bool := decide (1 ≤ e) && (r.ep p == e)
def insPos (out : List Int) (n : Int) : Nat → Nat
  | 0 => 0
  | k + 1 => if n < out.getD k 0 then insPos out n k else k + 1
def insR (out : List Int) (n : Int) : List Int := out.take (insPos out n out.length) ++ [n] ++ out.drop (insPos out n out.length)
def openStep (p : Nat) (out : List Int) (x : REntry) : List Int := if (x.page == p && !x.closed) = true then insR out x.number else out
def openR (l : List REntry) (p : Nat) : List Int := l.foldl (openStep p) []
def RWorld.setE (r : RWorld) (j : Nat) (x : REntry) : RWorld := { r with l := r.l.set j x }
def claimR (r : RWorld) (p : Nat) (e : Int) : Int × RWorld :=
  if e < 1 then (1, r) else if e < r.ep p then (14, r) else (0, { r with order := if r.ep p = 0 then r.order ++ [p] else r.order, ep := upd r.ep p e })
def askR (r : RWorld) (p : Nat) (n : Int) (served : Bool) (req : ByteArray) : Int × RWorld :=
  if served = false then (14, r) else if n < 1 then (1, r) else
  match findR p n r.l 0 with
  | some j => if ((r.l.getD j noR).request.toList == req.toList) = true then (0, r) else (9, r)
  | none => if 64 ≤ (openR r.l p).length then (5, r) else (0, { r with l := r.l ++ [⟨p, n, req, [], 0, false, false⟩] })
def feedR (r : RWorld) (p : Nat) (n : Int) (t : ByteArray) : Int × RWorld :=
  match findR p n r.l 0 with
  | none => (6, r)
  | some j => if (r.l.getD j noR).ended = true then (7, r) else if (r.l.getD j noR).closed = true then (0, r) else (0, r.setE j { r.l.getD j noR with all := (r.l.getD j noR).all ++ [t] })
def endR (r : RWorld) (p : Nat) (n : Int) : Int × RWorld :=
  match findR p n r.l 0 with
  | none => (6, r)
  | some j => if (r.l.getD j noR).ended = true then (7, r) else (0, r.setE j { r.l.getD j noR with ended := true })
/-- What the last three kinds share: the place of an open entry of an owner, or an error. -/
def atR (r : RWorld) (p : Nat) (e n : Int) : Option Nat × Int :=
  if servedR r p e = false then (none, 14) else
  match findR p n r.l 0 with
  | none => (none, 6)
  | some j => if (r.l.getD j noR).closed = true then (none, 6) else (some j, 0)
def takeR (r : RWorld) (p : Nat) (e n at_ : Int) : Told :=
  match (atR r p e n).1 with
  | none => ⟨(atR r p e n).2, [], false, []⟩
  | some j => if at_ < (r.l.getD j noR).acked ∨ (r.l.getD j noR).all.length < at_ then ⟨2, [], false, []⟩ else ⟨0, (r.l.getD j noR).all.drop at_.toNat, (r.l.getD j noR).ended, []⟩
def ackR (r : RWorld) (p : Nat) (e n at_ : Int) : Int × RWorld :=
  match (atR r p e n).1 with
  | none => ((atR r p e n).2, r)
  | some j => if at_ < (r.l.getD j noR).acked ∨ (r.l.getD j noR).all.length < at_ then (2, r) else (0, r.setE j { r.l.getD j noR with acked := at_, closed := (r.l.getD j noR).ended && decide (at_ = (r.l.getD j noR).all.length) })
def closeR (r : RWorld) (p : Nat) (e n : Int) : Int × RWorld :=
  match (atR r p e n).1 with
  | none => ((atR r p e n).2, r)
  | some j => (0, r.setE j { r.l.getD j noR with closed := true, acked := (r.l.getD j noR).all.length })
def COp.pg (o : COp) : Nat := (o.page % 4).toNat
theorem COp.pg_lt (o : COp) : o.pg < 4 := by unfold COp.pg; omega
def doR (r : RWorld) (o : COp) : Told × RWorld :=
  match (o.kind % 8).toNat with
  | 0 => (⟨(claimR r o.pg o.epoch).1, [], false, []⟩, (claimR r o.pg o.epoch).2)
  | 1 => (⟨(askR r o.pg o.number (servedR r o.pg o.epoch) o.text).1, [], false, []⟩, (askR r o.pg o.number (servedR r o.pg o.epoch) o.text).2)
  | 2 => (⟨(feedR r o.pg o.number o.text).1, [], false, []⟩, (feedR r o.pg o.number o.text).2)
  | 3 => (⟨(endR r o.pg o.number).1, [], false, []⟩, (endR r o.pg o.number).2)
  | 4 => (takeR r o.pg o.epoch o.number o.at_, r)
  | 5 => (⟨(ackR r o.pg o.epoch o.number o.at_).1, [], false, []⟩, (ackR r o.pg o.epoch o.number o.at_).2)
  | 6 => (⟨(closeR r o.pg o.epoch o.number).1, [], false, []⟩, (closeR r o.pg o.epoch o.number).2)
  | _ => (⟨0, [], false, openR r.l o.pg⟩, r)
def newR : RWorld := ⟨fun _ => 0, [], []⟩

/-- An entry of the reference, as the program keeps it. -/
def toE (x : REntry) : Entry := ⟨pageN x.page, x.number, x.request, x.all.drop x.acked.toNat, x.acked, x.ended, x.closed⟩
structure ROk (x : REntry) : Prop where
  page : x.page < 4
  lo : 0 ≤ x.acked
  hi : x.acked ≤ x.all.length
  shut : x.closed = true → x.acked = x.all.length
structure Sim (s : State) (r : RWorld) : Prop where
  owners : s.owners = r.order.map fun p => ⟨pageN p, r.ep p⟩
  lt : ∀ p ∈ r.order, p < 4
  nd : r.order.Nodup
  ep : ∀ p, p < 4 → (p ∈ r.order ∧ 1 ≤ r.ep p) ∨ (p ∉ r.order ∧ r.ep p = 0)
  entries : s.entries = r.l.map toE
  each : ∀ x ∈ r.l, ROk x
  sent : s.sent = r.l.map (·.request)
theorem sim_new : Sim newState newR := ⟨rfl, by simp [newR], by simp [newR], fun p _ => .inr ⟨by simp [newR], rfl⟩, rfl, by simp [newR], rfl⟩

theorem pageN_eq {p q : Nat} (hp : p < 4) (hq : q < 4) : ((pageN p).toList == (pageN q).toList) = (p == q) := by
  match p, hp, q, hq with
  | 0, _, 0, _ | 0, _, 1, _ | 0, _, 2, _ | 0, _, 3, _ | 1, _, 0, _ | 1, _, 1, _ | 1, _, 2, _ | 1, _, 3, _ | 2, _, 0, _ | 2, _, 1, _ | 2, _, 2, _ | 2, _, 3, _ | 3, _, 0, _ | 3, _, 1, _ | 3, _, 2, _ | 3, _, 3, _ => decide +kernel
theorem findE_sim {p : Nat} (hp : p < 4) (n : Int) : ∀ (l : List REntry) (k : Nat), (∀ x ∈ l, ROk x) → findE (pageN p) n (l.map toE) k = findR p n l k
  | [], _, _ => rfl
  | x :: l, k, h => by
    have h1 := (h x (List.mem_cons_self ..)).page
    rw [List.map_cons, findE, findR, findE_sim hp n l (k + 1) (fun y hy => h y (List.mem_cons_of_mem _ hy))]
    show (if ((pageN x.page).toList == (pageN p).toList && x.number == n) = true then _ else _) = _
    rw [pageN_eq h1 hp]
theorem findR_lt (p : Nat) (n : Int) : ∀ (l : List REntry) (k i : Nat), findR p n l k = some i → k ≤ i ∧ i < k + l.length
  | [], _, _, h => by simp [findR] at h
  | s :: l, k, i, h => by
    rw [findR] at h
    split at h
    · simp at h; subst h; simp
    · have := findR_lt p n l (k + 1) i h
      simp only [List.length_cons]; omega
theorem findO_sim {p : Nat} (hp : p < 4) (ep : Nat → Int) : ∀ (l : List Nat) (k : Nat), (∀ q ∈ l, q < 4) →
    (p ∉ l ∧ findO (pageN p) (l.map fun q => ⟨pageN q, ep q⟩) k = none) ∨ ∃ i, ∃ h : i < l.length, l[i] = p ∧ findO (pageN p) (l.map fun q => ⟨pageN q, ep q⟩) k = some (k + i)
  | [], _, _ => .inl ⟨by simp, rfl⟩
  | q :: l, k, h => by
    have h1 := h q (List.mem_cons_self ..)
    rw [List.map_cons, findO]
    show _ ∨ ∃ i, ∃ h : i < (q :: l).length, _ ∧ (if ((pageN q).toList == (pageN p).toList) = true then _ else _) = _
    simp only [pageN_eq h1 hp]
    by_cases hq : q = p
    · exact .inr ⟨0, by simp, by simpa using hq, by simp [hq]⟩
    · have hq2 : (q == p) = false := by simpa using hq
      simp only [hq2]
      rcases findO_sim hp ep l (k + 1) (fun y hy => h y (List.mem_cons_of_mem _ hy)) with ⟨a, b⟩ | ⟨i, hi, a, b⟩
      · refine .inl ⟨?_, by simpa using b⟩
        simp only [List.mem_cons, not_or]
        exact ⟨fun e => hq e.symm, a⟩
      · exact .inr ⟨i + 1, by simp; omega, by simpa using a, by simp only [Bool.false_eq_true, if_false]; rw [b]; congr 1; omega⟩

section
variable {s : State} {r : RWorld}
theorem Sim.served (h : Sim s r) {p : Nat} (hp : p < 4) (e : Int) : servesB s (pageN p) e = servedR r p e := by
  unfold servesB servedR
  rw [h.owners]
  rcases findO_sim hp r.ep r.order 0 h.lt with ⟨a, b⟩ | ⟨i, hi, a, b⟩
  · rw [b]
    rcases h.ep p hp with ⟨c, _⟩ | ⟨_, c⟩
    · exact absurd c a
    · rw [c]
      by_cases he : 1 ≤ e
      · have : ((0 : Int) == e) = false := by simp; omega
        rw [this]; simp
      · simp [he]
  · rw [b]
    have hm : p ∈ r.order := a ▸ List.getElem_mem hi
    rcases h.ep p hp with ⟨_, c⟩ | ⟨c, _⟩
    · simp only [Nat.zero_add, List.getD_eq_getElem?_getD, List.getElem?_map, List.getElem?_eq_getElem hi, Option.map_some, Option.getD_some, a]
      by_cases he : 1 ≤ e
      · simp [he]
      · have : (r.ep p == e) = false := by simp; omega
        simp [this]
    · exact absurd hm c
theorem Sim.find (h : Sim s r) {p : Nat} (hp : p < 4) (n : Int) : findE (pageN p) n s.entries 0 = findR p n r.l 0 := by
  rw [h.entries]; exact findE_sim hp n r.l 0 h.each
theorem Sim.get (h : Sim s r) {j : Nat} (hj : j < r.l.length) : s.entries.getD j noEntry = toE (r.l.getD j noR) := by
  rw [h.entries]
  simp [List.getD_eq_getElem?_getD, hj]
theorem Sim.ok (h : Sim s r) {j : Nat} (hj : j < r.l.length) : ROk (r.l.getD j noR) := by
  rw [show r.l.getD j noR = r.l[j] from by simp [List.getD_eq_getElem?_getD, hj]]
  exact h.each _ (List.getElem_mem hj)
theorem Sim.setE (h : Sim s r) {j : Nat} (hj : j < r.l.length) {x : REntry} {y : Entry} (hy : y = toE x) (hx : ROk x) (hr : x.request = (r.l.getD j noR).request) : Sim (s.setE j y) (r.setE j x) := by
  refine ⟨h.owners, h.lt, h.nd, h.ep, ?_, ?_, ?_⟩
  · show s.entries.set j y = (r.l.set j x).map toE
    rw [h.entries, hy, List.map_set]
  · intro z hz
    rcases List.mem_or_eq_of_mem_set hz with h1 | h1
    · exact h.each z h1
    · subst h1; exact hx
  · show s.sent = (r.l.set j x).map (·.request)
    rw [h.sent, List.map_set, hr]
    refine List.ext_getElem? fun i => ?_
    rw [List.getElem?_set]
    split
    · rename_i he
      subst he
      simp [hj]
    · rfl
theorem Sim.openAt (h : Sim s r) {p : Nat} (hp : p < 4) (e n : Int) : openM s (pageN p) e n = atR r p e n := by
  unfold openM atR
  rw [h.served hp, h.find hp]
  split
  · rfl
  · cases hf : findR p n r.l 0 with
    | none => rfl
    | some j =>
      have hj : j < r.l.length := by have := findR_lt _ _ _ _ _ hf; omega
      simp only [h.get hj]
      rfl
theorem atR_some {p : Nat} {e n : Int} {j : Nat} (h : (atR r p e n).1 = some j) : j < r.l.length ∧ (r.l.getD j noR).closed = false := by
  unfold atR at h
  split at h
  · cases h
  · split at h
    · cases h
    · rename_i i hf
      split at h
      · cases h
      · rename_i hb
        cases h
        exact ⟨by have := findR_lt _ _ _ _ _ hf; omega, by simpa using hb⟩
end
end Go.Proofs.Ytaacafdlklnegaa
namespace Go.Proofs.Ytaacafdlklnegaa
open Go.RowKit
set_option linter.unusedVariables false

theorem insPos_le (out : List Int) (n : Int) : ∀ k, insPos out n k ≤ k
  | 0 => Nat.le_refl _
  | k + 1 => by
    rw [insPos]
    split
    · have := insPos_le out n k; omega
    · omega
theorem insPos_hi (out : List Int) (n : Int) : ∀ k i, insPos out n k ≤ i → i < k → n < out.getD i 0
  | 0, i, _, h => by omega
  | k + 1, i, h1, h2 => by
    rw [insPos] at h1
    split at h1
    · rename_i hc
      by_cases hi : i = k
      · subst hi; exact hc
      · exact insPos_hi out n k i h1 (by omega)
    · omega
theorem insPos_lo (out : List Int) (n : Int) : ∀ k, 0 < insPos out n k → out.getD (insPos out n k - 1) 0 ≤ n
  | 0, h => by simp [insPos] at h
  | k + 1, h => by
    rw [insPos] at h ⊢
    by_cases hc : n < out.getD k 0
    · rw [if_pos hc] at h ⊢; exact insPos_lo out n k h
    · rw [if_neg hc]; simpa using hc
theorem insR_perm (out : List Int) (n : Int) : (insR out n).Perm (n :: out) := by
  unfold insR
  have : (n :: out).Perm (n :: (out.take (insPos out n out.length) ++ out.drop (insPos out n out.length))) := by rw [List.take_append_drop]
  refine List.Perm.trans ?_ this.symm
  rw [List.append_assoc]
  exact List.perm_middle
theorem insR_sorted (out : List Int) (n : Int) (h : out.Pairwise (· ≤ ·)) : (insR out n).Pairwise (· ≤ ·) := by
  unfold insR
  have hle := insPos_le out n out.length
  have hhi := insPos_hi out n out.length
  have hlo := insPos_lo out n out.length
  generalize insPos out n out.length = k at *
  have hA : ∀ a ∈ out.take k, a ≤ n := by
    intro a ha
    obtain ⟨i, hi, rfl⟩ := List.getElem_of_mem ha
    have hi' : i < k := by simp at hi; omega
    have h1 := hlo (by omega)
    have h2 : out[i]'(by omega) ≤ out[k - 1]'(by omega) := by
      by_cases e : i = k - 1
      · simp [e]
      · exact List.pairwise_iff_getElem.1 h i (k - 1) (by omega) (by omega) (by omega)
    rw [List.getElem_take]
    rw [List.getD_eq_getElem?_getD, List.getElem?_eq_getElem (by omega)] at h1
    simp only [Option.getD_some] at h1
    omega
  have hB : ∀ b ∈ out.drop k, n ≤ b := by
    intro b hb
    obtain ⟨i, hi, rfl⟩ := List.getElem_of_mem hb
    have hi' : k + i < out.length := by simp at hi; omega
    have h1 := hhi (k + i) (by omega) hi'
    rw [List.getElem_drop]
    rw [List.getD_eq_getElem?_getD, List.getElem?_eq_getElem hi'] at h1
    simp only [Option.getD_some] at h1
    omega
  rw [List.pairwise_append, List.pairwise_append]
  refine ⟨⟨h.sublist (List.take_sublist ..), by simp, fun a ha b hb => by simp only [List.mem_singleton] at hb; subst hb; exact hA a ha⟩, h.sublist (List.drop_sublist ..), ?_⟩
  intro a ha b hb
  have h2 := hB b hb
  rcases List.mem_append.1 ha with ha | ha
  · have := hA a ha; omega
  · simp only [List.mem_singleton] at ha; subst ha; exact h2
theorem fold_open (p : Nat) : ∀ (l : List REntry) (acc : List Int), acc.Pairwise (· ≤ ·) →
    (l.foldl (openStep p) acc).Pairwise (· ≤ ·) ∧ (l.foldl (openStep p) acc).Perm (acc ++ (l.filter fun x => x.page == p && !x.closed).map (·.number))
  | [], acc, h => ⟨h, by simp⟩
  | x :: l, acc, h => by
    rw [List.foldl_cons, List.filter_cons]
    unfold openStep
    by_cases hc : (x.page == p && !x.closed) = true
    · rw [if_pos hc, if_pos hc]
      obtain ⟨a, b⟩ := fold_open p l (insR acc x.number) (insR_sorted acc _ h)
      refine ⟨a, b.trans ?_⟩
      rw [List.map_cons]
      exact ((insR_perm acc x.number).append_right _).trans (List.perm_middle.symm)
    · rw [if_neg hc, if_neg hc]
      exact fold_open p l acc h
theorem sorted_spec (zs : List Int) : (sorted zs).Pairwise (· ≤ ·) ∧ (sorted zs).Perm zs := by
  unfold sorted
  refine ⟨?_, List.mergeSort_perm _ _⟩
  have := List.pairwise_mergeSort (le := fun x y : Int => decide (x ≤ y)) (by intro a b c; simp only [decide_eq_true_eq]; omega) (by intro a b; simp only [Bool.or_eq_true, decide_eq_true_eq]; omega) zs
  exact this.imp (by simp)
theorem openR_sorted (l : List REntry) (p : Nat) : openR l p = sorted ((l.filter fun x => x.page == p && !x.closed).map (·.number)) := by
  obtain ⟨a, b⟩ := fold_open p l [] List.Pairwise.nil
  obtain ⟨c, d⟩ := sorted_spec ((l.filter fun x => x.page == p && !x.closed).map (·.number))
  exact List.Perm.eq_of_pairwise (fun x y _ _ h1 h2 => by omega) a c (by have e := b.trans (by simpa using d.symm); exact e)
section
variable {s : State} {r : RWorld}
theorem Sim.opens (h : Sim s r) {p : Nat} (hp : p < 4) : opens s (pageN p) = (r.l.filter fun x => x.page == p && !x.closed).map (·.number) := by
  unfold Go.Proofs.Ytaacafdlklnegaa.opens
  rw [h.entries, List.filter_map, List.map_map]
  have : ∀ x ∈ r.l, (isOpen (pageN p) ∘ toE) x = (x.page == p && !x.closed) := by
    intro x hx
    show ((pageN x.page).toList == (pageN p).toList && !x.closed) = _
    rw [pageN_eq (h.each x hx).page hp]
  rw [List.filter_congr this]
  rfl
theorem Sim.openL (h : Sim s r) {p : Nat} (hp : p < 4) : openL s (pageN p) = openR r.l p := by
  rw [openR_sorted, ← h.opens hp]; rfl
theorem Sim.openLen (h : Sim s r) {p : Nat} (hp : p < 4) : (Go.Proofs.Ytaacafdlklnegaa.opens s (pageN p)).length = (openR r.l p).length := by
  rw [openR_sorted, ← h.opens hp, sorted_length]
theorem Sim.claim (h : Sim s r) {p : Nat} (hp : p < 4) (e : Int) : (claimM s (pageN p) e).1 = (claimR r p e).1 ∧ Sim (claimM s (pageN p) e).2 (claimR r p e).2 := by
  have hz : 1 ≤ (pageN p).size ∧ (pageN p).size ≤ 200 := by rw [pageN_size]; omega
  unfold claimM claimR
  by_cases he : e < 1
  · rw [if_pos (.inr he), if_pos he]; exact ⟨rfl, h⟩
  rw [if_neg (by rintro (x | x); exact x hz; exact he x), if_neg he, h.owners]
  have hm : ∀ (l : List Nat), p ∉ l → (l.map fun q => (⟨pageN q, upd r.ep p e q⟩ : Owner)) = l.map fun q => ⟨pageN q, r.ep q⟩ := by
    intro l hl
    refine List.map_congr_left fun q hq => ?_
    unfold upd
    rw [if_neg (by rintro rfl; exact hl hq)]
  have hep : ∀ (L : List Nat), p ∈ L → (∀ q, q ≠ p → (q ∈ L ↔ q ∈ r.order)) → ∀ q, q < 4 → (q ∈ L ∧ 1 ≤ upd r.ep p e q) ∨ (q ∉ L ∧ upd r.ep p e q = 0) := by
    intro L h1 h2 q hq
    unfold upd
    by_cases hqp : q = p
    · subst hqp; rw [if_pos rfl]; exact .inl ⟨h1, by omega⟩
    · rw [if_neg hqp, h2 q hqp]; exact h.ep q hq
  rcases findO_sim hp r.ep r.order 0 h.lt with ⟨a, b⟩ | ⟨i, hi, a, b⟩
  · rw [b]
    have h0 : r.ep p = 0 := by
      rcases h.ep p hp with ⟨c, _⟩ | ⟨_, c⟩
      · exact absurd c a
      · exact c
    rw [if_neg (by omega), if_pos h0]
    refine ⟨rfl, ?_, ?_, ?_, ?_, h.entries, h.each, h.sent⟩
    · show _ ++ [_] = (r.order ++ [p]).map _
      rw [List.map_append, hm _ a]
      simp [upd]
    · intro q hq
      rcases List.mem_append.1 hq with hq | hq
      · exact h.lt q hq
      · simp only [List.mem_singleton] at hq; omega
    · show (r.order ++ [p]).Nodup
      rw [List.nodup_append]
      refine ⟨h.nd, by simp, ?_⟩
      intro x hx y hy
      simp only [List.mem_singleton] at hy
      subst hy
      rintro rfl
      exact a hx
    · exact hep _ (by simp) (fun q hq => by simp [hq])
  · have hpm : p ∈ r.order := a ▸ List.getElem_mem hi
    have h1 : 1 ≤ r.ep p := by
      rcases h.ep p hp with ⟨_, c⟩ | ⟨c, _⟩
      · exact c
      · exact absurd hpm c
    rw [b]
    simp only [Nat.zero_add, List.getD_eq_getElem?_getD, List.getElem?_map, List.getElem?_eq_getElem hi, Option.map_some, Option.getD_some, a]
    by_cases hlt : e < r.ep p
    · rw [if_pos hlt, if_pos hlt]; exact ⟨rfl, h⟩
    · rw [if_neg hlt, if_neg hlt, if_neg (by omega)]
      refine ⟨rfl, ?_, h.lt, h.nd, hep _ hpm (fun q _ => Iff.rfl), h.entries, h.each, h.sent⟩
      show (r.order.map fun q => (⟨pageN q, r.ep q⟩ : Owner)).set i _ = r.order.map fun q => ⟨pageN q, upd r.ep p e q⟩
      refine List.ext_getElem (by simp) fun j h3 h4 => ?_
      simp only [List.length_set, List.length_map] at h3
      rw [List.getElem_set, List.getElem_map, List.getElem_map]
      split
      · rename_i hij
        subst hij
        simp [a, upd]
      · rename_i hij
        have : r.order[j] ≠ p := by
          intro hjp
          exact hij ((List.getElem_inj h.nd).1 (a.trans hjp.symm))
        simp [upd, this]
theorem Sim.ask (h : Sim s r) {p : Nat} (hp : p < 4) (e n : Int) (req : ByteArray) : (askM s (pageN p) e n req).1 = (askR r p n (servedR r p e) req).1 ∧ Sim (askM s (pageN p) e n req).2 (askR r p n (servedR r p e) req).2 := by
  unfold askM askR
  rw [h.served hp, h.find hp]
  split
  · exact ⟨rfl, h⟩
  · split
    · exact ⟨rfl, h⟩
    · cases hf : findR p n r.l 0 with
      | some j =>
        have hj : j < r.l.length := by have := findR_lt _ _ _ _ _ hf; omega
        simp only [h.get hj]
        show (if ((r.l.getD j noR).request.toList == req.toList) = true then ((0, s) : Int × State) else (9, s)).1 = (if ((r.l.getD j noR).request.toList == req.toList) = true then ((0, r) : Int × RWorld) else (9, r)).1 ∧
          Sim (if ((r.l.getD j noR).request.toList == req.toList) = true then ((0, s) : Int × State) else (9, s)).2 (if ((r.l.getD j noR).request.toList == req.toList) = true then ((0, r) : Int × RWorld) else (9, r)).2
        split
        · exact ⟨rfl, h⟩
        · exact ⟨rfl, h⟩
      | none =>
        simp only [h.openLen hp]
        split
        · exact ⟨rfl, h⟩
        · refine ⟨rfl, h.owners, h.lt, h.nd, h.ep, ?_, ?_, ?_⟩
          · show s.entries ++ [_] = (r.l ++ [_]).map toE
            rw [h.entries, List.map_append]
            simp [toE]
          · intro x hx
            rcases List.mem_append.1 hx with hx | hx
            · exact h.each x hx
            · simp only [List.mem_singleton] at hx; subst hx
              exact ⟨hp, Int.le_refl _, by simp, by simp⟩
          · show s.sent ++ [req] = (r.l ++ [(⟨p, n, req, [], 0, false, false⟩ : REntry)]).map (fun x => x.request)
            rw [h.sent, List.map_append]
            rfl
theorem Sim.feed (h : Sim s r) {p : Nat} (hp : p < 4) (n : Int) (t : ByteArray) : (feedM s (pageN p) n t).1 = (feedR r p n t).1 ∧ Sim (feedM s (pageN p) n t).2 (feedR r p n t).2 := by
  unfold feedM feedR runningM
  rw [h.find hp]
  cases hf : findR p n r.l 0 with
  | none => exact ⟨rfl, h⟩
  | some j =>
    have hj : j < r.l.length := by have := findR_lt _ _ _ _ _ hf; omega
    have hk := h.ok hj
    have hg := h.get hj
    have hse := fun x y => h.setE (j := j) (x := x) (y := y) hj
    dsimp only
    generalize r.l.getD j noR = x at *
    cases he : x.ended with
    | true =>
      simp only [hg, toE, he, if_true]
      exact ⟨trivial, h⟩
    | false =>
      cases hc : x.closed with
      | true =>
        simp only [hg, toE, he, hc, if_true, Bool.false_eq_true, if_false]
        exact ⟨trivial, h⟩
      | false =>
        simp only [hg, toE, he, hc, Bool.false_eq_true, if_false]
        refine ⟨trivial, hse _ _ ?_ ⟨hk.page, hk.lo, by have := hk.hi; simp; omega, by simp⟩ rfl⟩
        have := hk.hi
        have := hk.lo
        simp [toE, List.drop_append_of_le_length (show x.acked.toNat ≤ x.all.length by omega)]
theorem Sim.end_ (h : Sim s r) {p : Nat} (hp : p < 4) (n : Int) : (endM s (pageN p) n).1 = (endR r p n).1 ∧ Sim (endM s (pageN p) n).2 (endR r p n).2 := by
  unfold endM endR runningM
  rw [h.find hp]
  cases hf : findR p n r.l 0 with
  | none => exact ⟨rfl, h⟩
  | some j =>
    have hj : j < r.l.length := by have := findR_lt _ _ _ _ _ hf; omega
    have hk := h.ok hj
    have hg := h.get hj
    have hse := fun x y => h.setE (j := j) (x := x) (y := y) hj
    dsimp only
    generalize r.l.getD j noR = x at *
    cases he : x.ended with
    | true =>
      simp only [hg, toE, he, if_true]
      exact ⟨trivial, h⟩
    | false =>
      simp only [hg, toE, he, Bool.false_eq_true, if_false]
      exact ⟨trivial, hse _ _ rfl ⟨hk.page, hk.lo, hk.hi, hk.shut⟩ rfl⟩
theorem Sim.fromNo (h : Sim s r) {p : Nat} (hp : p < 4) (e n ix : Int) (ha : (atR r p e n).1 = none) : fromM s (pageN p) e n ix = (none, (atR r p e n).2) := by
  unfold fromM
  rw [h.openAt hp, ha]
theorem Sim.fromYes (h : Sim s r) {p : Nat} (hp : p < 4) (e n ix : Int) {j : Nat} (ha : (atR r p e n).1 = some j) : fromM s (pageN p) e n ix = if ix < (r.l.getD j noR).acked ∨ (r.l.getD j noR).all.length < ix then (none, 2) else (some j, 0) := by
  obtain ⟨hj, -⟩ := atR_some ha
  have hk := h.ok hj
  unfold fromM
  rw [h.openAt hp, ha]
  simp only [h.get hj]
  generalize r.l.getD j noR = x at *
  have : ((toE x).acked + ((toE x).pieces.length : Nat) : Int) = (x.all.length : Int) := by
    have := hk.lo; have := hk.hi
    simp [toE]; omega
  rw [this]
  rfl
theorem Sim.take (h : Sim s r) {p : Nat} (hp : p < 4) (e n ix : Int) : (⟨(takeM s (pageN p) e n ix).2.2, (takeM s (pageN p) e n ix).1, (takeM s (pageN p) e n ix).2.1, []⟩ : Told) = takeR r p e n ix := by
  unfold takeM takeR
  cases ha : (atR r p e n).1 with
  | none => rw [h.fromNo hp e n ix ha]
  | some j =>
    obtain ⟨hj, -⟩ := atR_some ha
    have hk := h.ok hj
    rw [h.fromYes hp e n ix ha]
    dsimp only
    by_cases hc : ix < (r.l.getD j noR).acked ∨ ((r.l.getD j noR).all.length : Int) < ix
    · rw [if_pos hc, if_pos hc]
    · rw [if_neg hc, if_neg hc]
      dsimp only
      rw [h.get hj]
      generalize r.l.getD j noR = x at *
      have := hk.lo; have := hk.hi
      simp only [toE, List.drop_drop]
      rw [show x.acked.toNat + (ix - x.acked).toNat = ix.toNat from by omega]
theorem Sim.ack (h : Sim s r) {p : Nat} (hp : p < 4) (e n ix : Int) : (ackM s (pageN p) e n ix).1 = (ackR r p e n ix).1 ∧ Sim (ackM s (pageN p) e n ix).2 (ackR r p e n ix).2 := by
  unfold ackM ackR
  cases ha : (atR r p e n).1 with
  | none => rw [h.fromNo hp e n ix ha]; exact ⟨rfl, h⟩
  | some j =>
    obtain ⟨hj, -⟩ := atR_some ha
    have hk := h.ok hj
    rw [h.fromYes hp e n ix ha]
    dsimp only
    by_cases hc : ix < (r.l.getD j noR).acked ∨ ((r.l.getD j noR).all.length : Int) < ix
    · rw [if_pos hc, if_pos hc]; exact ⟨rfl, h⟩
    · rw [if_neg hc, if_neg hc]
      dsimp only
      rw [h.get hj]
      have hse := fun x y => h.setE (j := j) (x := x) (y := y) hj
      generalize r.l.getD j noR = x at *
      have := hk.lo; have := hk.hi
      refine ⟨rfl, hse _ _ ?_ ⟨hk.page, by show 0 ≤ ix; omega, by show ix ≤ (x.all.length : Int); omega, ?_⟩ rfl⟩
      · simp only [toE, List.drop_drop]
        rw [show x.acked.toNat + (ix - x.acked).toNat = ix.toNat from by omega]
        have : (x.all.drop ix.toNat).isEmpty = decide (ix = (x.all.length : Int)) := by
          rw [Bool.eq_iff_iff]
          simp only [List.isEmpty_iff, List.drop_eq_nil_iff, decide_eq_true_eq]
          omega
        rw [this]
      · simp only [Bool.and_eq_true, decide_eq_true_eq]
        exact fun h => h.2
theorem Sim.close (h : Sim s r) {p : Nat} (hp : p < 4) (e n : Int) : (closeM s (pageN p) e n).1 = (closeR r p e n).1 ∧ Sim (closeM s (pageN p) e n).2 (closeR r p e n).2 := by
  unfold closeM closeR
  rw [h.openAt hp]
  cases ha : (atR r p e n).1 with
  | none => exact ⟨rfl, h⟩
  | some j =>
    obtain ⟨hj, -⟩ := atR_some ha
    have hk := h.ok hj
    dsimp only
    rw [h.get hj]
    have hse := fun x y => h.setE (j := j) (x := x) (y := y) hj
    generalize r.l.getD j noR = x at *
    have := hk.lo; have := hk.hi
    refine ⟨rfl, hse _ _ ?_ ⟨hk.page, by simp, by simp, fun _ => rfl⟩ rfl⟩
    simp [toE]
    omega
theorem told_eq {a b : Int} {P : Prop} (h : a = b ∧ P) : (⟨a, [], false, []⟩ : Told) = ⟨b, [], false, []⟩ ∧ P := ⟨by rw [h.1], h.2⟩
theorem Sim.do_ (h : Sim s r) (o : COp) : (doM s o).1 = (doR r o).1 ∧ Sim (doM s o).2 (doR r o).2 := by
  have hp := o.pg_lt
  have hn : o.name = pageN o.pg := rfl
  unfold doM doR
  rw [hn]
  generalize (o.kind % 8).toNat = k
  match k with
  | 0 => exact told_eq (h.claim hp _)
  | 1 => exact told_eq (h.ask hp _ _ _)
  | 2 => exact told_eq (h.feed hp _ _)
  | 3 => exact told_eq (h.end_ hp _)
  | 4 => exact ⟨h.take hp _ _ _, h⟩
  | 5 => exact told_eq (h.ack hp _ _ _)
  | 6 => exact told_eq (h.close hp _ _)
  | k + 7 => exact ⟨by show (⟨0, [], false, Go.Proofs.Ytaacafdlklnegaa.openL s (pageN o.pg)⟩ : Told) = ⟨0, [], false, openR r.l o.pg⟩; rw [h.openL hp], h⟩
end
end Go.Proofs.Ytaacafdlklnegaa
namespace Go.Proofs.Ytaacafdlklnegaa
open Go.RowKit
set_option linter.unusedVariables false

/-- Each value takes one cell. -/
def Ones (cs : List Value) : Prop := ∀ u ∈ cs, u.oneCell' = true
theorem Ones.nil : Ones [] := fun u h => by cases h
theorem Ones.append {a b : List Value} (h : Ones a) (k : Ones b) : Ones (a ++ b) := fun u hu => (List.mem_append.1 hu).elim (h u) (k u)
structure One {α : Type} (A : Rep α) : Prop where
  ones : ∀ {w cs a F}, A.own w cs a F → Ones cs
section
variable {α : Type} {A : Rep α} {w : World} {xs : List (List Value)} {l : List α} {Fs : List (List Nat)}
theorem Each.ones (hA : One A) (h : Each A w xs l Fs) : Ones xs.flatten := by
  induction h with
  | nil => exact Ones.nil
  | cons h1 _ ih => rw [List.flatten_cons]; exact (hA.ones h1).append ih
theorem RowAt.one {e size n : Nat} {v : Value} {zs : List Value} (h : RowAt w e size v n zs) : v.oneCell' = true := by
  obtain ⟨a, cap, rfl, _⟩ := h.slice
  rfl
theorem One.row (A : Rep α) (e : TypeId) : One (A.row e) := ⟨fun ⟨v, xs, Fs, hv, h2, _⟩ u hu => by
  subst hv
  simp only [List.mem_singleton] at hu
  subst hu
  exact h2.one⟩
theorem One.str : One Rep.str := ⟨fun ⟨h, _⟩ u hu => by subst h; simp only [List.mem_singleton] at hu; subst hu; rfl⟩
theorem One.bool : One Rep.bool := ⟨fun ⟨h, _⟩ u hu => by subst h; simp only [List.mem_singleton] at hu; subst hu; rfl⟩
theorem One.int (k : IntKind) : One (Rep.int k) := ⟨fun ⟨h, _⟩ u hu => by subst h; simp only [List.mem_singleton] at hu; subst hu; rfl⟩
end
/-- A row as the second argument of append. -/
theorem Src.ofRow {P : Program} {w : World} {t e e' size n : Nat} {v : Value} {xs : List Value} (hk : P.underlying t = some (.slice e')) (h : RowAt w e size v n xs) (h1 : Ones xs) : Src P size t v n xs w := by
  obtain ⟨a, cap, rfl, -⟩ := h.slice
  cases a with
  | none =>
    rcases h.2 with ⟨hv, rfl⟩ | ⟨g, off, c, cur, hv, -⟩
    · have hx : xs = [] := List.eq_nil_of_length_eq_zero (by simpa using h.1)
      subst hx
      exact Src.ofNil _ hk cap
    · simp at hv
  | some ad => exact Src.ofSlice _ hk ad n cap xs h.1 (h.cells rfl) h1
/-- A whole row appended. Outside a region that draws. -/
theorem list_append_rows {P : Program} {W : World} {ops : Array Oper} {rest : List Oper} {o : Oper} {a : Act} {Q : Exit → Act → World → Prop} (hgd : o.guard = none) (s x : Operand) (t : TypeId)
    (ho : o.op = .call { callee := .builtin .append, args := #[s, x], argTypes := #[t, t] })
    (e : TypeId) (size bytes : Nat) (ht : P.underlying t = some (.slice e)) (hE : Elem P e size bytes) (hsz : 0 < size)
    (v : Value) (n : Nat) (xs : List Value) (hsv : a.eval s = v) (hown : RowAt W e size v n xs) (xv : Value) (m : Nat) (news : List Value) (hx : a.eval x = xv) (hxr : RowAt W e size xv m news) (h1 : Ones news)
    (h63 : n + m ≤ maxLen) (hbytes : (n + m) * bytes ≤ 140737488355328)
    (h : ∀ a1 n1 c1 w', RowAt w' e size (.slice a1 n1 c1) (n + m) (xs ++ news) → Chg (fun k => v.ownBlock = some k) W w' → (∀ k, (Value.slice a1 n1 c1).ownBlock = some k → v.ownBlock = some k ∨ W.heap.size ≤ k) → wpList P ops Q rest (a.put o.dst (.slice a1 n1 c1)) w') :
    wpList P ops Q (o :: rest) a W := by
  obtain ⟨i, z, hi, hz, hsize, hby, hzs⟩ := hE
  exact wpList_append_slice W hgd s x t t ho e i z size bytes ht hi hz hsize hby hzs hsz v n xs hsv hown _ m news hx (Src.ofRow ht hxr h1) h63 hbytes h
/-- The same inside a region that draws its order. -/
theorem step_append_rows {P : Program} {W : World} {ops : Array Oper} {o : Oper} {a : Act} {K : Act → World → Prop} {Q : Exit → Act → World → Prop} {E : Prop} (hgd : o.guard = none) (s x : Operand) (t : TypeId)
    (ho : o.op = .call { callee := .builtin .append, args := #[s, x], argTypes := #[t, t] })
    (e : TypeId) (size bytes : Nat) (ht : P.underlying t = some (.slice e)) (hE : Elem P e size bytes) (hsz : 0 < size)
    (v : Value) (n : Nat) (xs : List Value) (hsv : a.eval s = v) (hown : RowAt W e size v n xs) (xv : Value) (m : Nat) (news : List Value) (hx : a.eval x = xv) (hxr : RowAt W e size xv m news) (h1 : Ones news)
    (h63 : n + m ≤ maxLen) (hbytes : (n + m) * bytes ≤ 140737488355328)
    (h : ∀ a1 n1 c1 w', RowAt w' e size (.slice a1 n1 c1) (n + m) (xs ++ news) → Chg (fun k => v.ownBlock = some k) W w' → (∀ k, (Value.slice a1 n1 c1).ownBlock = some k → v.ownBlock = some k ∨ W.heap.size ≤ k) → K (a.put o.dst (.slice a1 n1 c1)) w') :
    if Region.wanted o (yielded ops a.tmps) = true then Oper.wp P o a W K Q else E := by
  obtain ⟨i, z, hi, hz, hsize, hby, hzs⟩ := hE
  refine step_append_row hgd s x t t ho e i z size bytes ht hi hz hsize hby hzs hsz v n xs hsv hown _ m news hx (Src.ofRow ht hxr h1) h63 hbytes ?_
  intro v' w' h1 h2 h3
  obtain ⟨a1, c1, rfl, _⟩ := h1.slice
  exact h a1 _ c1 w' h1 h2 h3
/-- An empty row of one's own, just made. -/
theorem RowAt.fresh (w : World) (e size T : Nat) (hT : T = e) : RowAt (w.alloc (.cells #[] T)) e size (.slice (some ⟨w.heap.size, 0, none⟩) 0 0) 0 [] := by
  subst hT
  exact ⟨by simp, .inr ⟨w.heap.size, 0, 0, _, rfl, alloc_block w _, Nat.le_refl _, by simp, by simp, by simp⟩⟩
/-- A row with one element, just made. -/
theorem RowAt.single (w : World) (e size T : Nat) (cs : List Value) (hT : T = e) (hl : cs.length = size) : RowAt (w.alloc (.cells cs.toArray T)) e size (.slice (some ⟨w.heap.size, 0, none⟩) 1 1) 1 cs := by
  subst hT
  exact ⟨by simpa using hl, .inr ⟨w.heap.size, 0, 1, _, rfl, alloc_block w _, Nat.le_refl _, by unfold maxLen; omega, by rw [Nat.zero_add, Nat.one_mul, ← hl]; simp, by rw [List.drop_zero, Nat.one_mul, ← hl]; simp⟩⟩
theorem RowAt.freshAt (w : World) (e size g : Nat) (hg : w.heap.size = g) : RowAt (w.alloc (.cells #[] e)) e size (.slice (some ⟨g, 0, none⟩) 0 0) 0 [] := by
  subst hg; exact RowAt.fresh w e size e rfl
theorem RowAt.singleAt (w : World) (e size g : Nat) (cs : Array Value) (hg : w.heap.size = g) (hl : cs.size = size) : RowAt (w.alloc (.cells cs e)) e size (.slice (some ⟨g, 0, none⟩) 1 1) 1 cs.toList := by
  subst hg
  have := RowAt.single w e size e cs.toList rfl (by simpa using hl)
  simpa using this
/-- The first elements of a row, and the last ones. -/
theorem RowAt.prefix {w : World} {e size n m c : Nat} {a : Option Addr} {xs : List Value} (h : RowAt w e size (.slice a n c) n xs) (hm : m ≤ n) : RowAt w e size (.slice a m c) m (xs.take (m * size)) := by
  have hmul : m * size ≤ n * size := Nat.mul_le_mul_right _ hm
  have h1 := h.1
  refine ⟨by rw [List.length_take]; omega, ?_⟩
  rcases h.2 with ⟨hv, rfl⟩ | ⟨g, off, cap, cur, hv, k1, k2, k3, k4, k5⟩
  · obtain rfl : m = 0 := by omega
    exact .inl ⟨hv, rfl⟩
  · simp only [Value.slice.injEq] at hv
    obtain ⟨rfl, -, rfl⟩ := hv
    exact .inr ⟨g, off, c, cur, rfl, k1, by omega, k3, k4, by rw [← k5, List.take_take, Nat.min_eq_left hmul]⟩
def reslS (size : Nat) (p : Option Addr) (n cap d : Nat) : Value := .slice (if cap = d then p else p.map (·.add (d * size))) (n - d) (cap - d)
theorem elem_eq {P : Program} {t e : TypeId} (ht : P.underlying t = some (.slice e)) : P.elem t = e := by
  unfold Program.elem
  rw [ht]
theorem run_reslS {P : Program} (w : World) (t e size : Nat) (ht : P.underlying t = some (.slice e)) (hs : (sizeOf e).run P w = .ok size w) (p : Option Addr) (n cap : Nat) (d : Int) (h0 : 0 ≤ d) (h1 : d ≤ n) : (Instr.slice t (.slice p n cap) (some (.int .i64 d)) none none).run P w = .ok (reslS size p n cap d.toNat) w := by
  have he := elem_eq ht
  rw [run_slice_l w t p n cap (by rw [he]; exact ht) .i64 d h0 h1, he, hs]
  simp [Result.andThen, sliced, reslS]
theorem run_takeS {P : Program} (w : World) (t e size : Nat) (ht : P.underlying t = some (.slice e)) (hs : (sizeOf e).run P w = .ok size w) (p : Option Addr) (n cap : Nat) (d : Int) (h0 : 0 ≤ d) (h1 : d ≤ cap) : (Instr.slice t (.slice p n cap) none (some (.int .i64 d)) none).run P w = .ok (.slice p d.toNat cap) w := by
  have he := elem_eq ht
  rw [run_slice_h w t p n cap (by rw [he]; exact ht) .i64 d h0 h1, he, hs]
  simp [Result.andThen, sliced]
  have hadd : ∀ a : Addr, a.add 0 = a := fun a => by unfold Addr.add; split <;> simp_all
  cases p <;> simp [hadd]
theorem RowAt.suffix {w : World} {e size n d c : Nat} {a : Option Addr} {xs : List Value} (h : RowAt w e size (.slice a n c) n xs) (hd : d ≤ n) : RowAt w e size (reslS size a n c d) (n - d) (xs.drop (d * size)) := by
  have hmul : d * size ≤ n * size := Nat.mul_le_mul_right _ hd
  have h1 := h.1
  refine ⟨by rw [List.length_drop, h1, ← Nat.sub_mul], ?_⟩
  unfold reslS
  rcases h.2 with ⟨hv, rfl⟩ | ⟨g, off, cap, cur, hv, k1, k2, k3, k4, k5⟩
  · obtain rfl : d = 0 := by omega
    simp only [Value.slice.injEq] at hv
    obtain ⟨rfl, -, rfl⟩ := hv
    exact .inl ⟨by simp, rfl⟩
  · simp only [Value.slice.injEq] at hv
    obtain ⟨rfl, -, rfl⟩ := hv
    refine .inr ?_
    have hadd : (⟨g, off, none⟩ : Addr).add (d * size) = ⟨g, off + d * size, none⟩ := by unfold Addr.add; split <;> simp_all
    have hcd : d * size ≤ c * size := Nat.mul_le_mul_right _ (by omega)
    by_cases hc : c = d
    · obtain rfl : n = d := by omega
      rw [if_pos hc]
      subst hc
      refine ⟨g, off, 0, cur, by simp, k1, by omega, by omega, by omega, ?_⟩
      rw [List.drop_of_length_le (l := xs) (by omega)]; simp
    · rw [if_neg hc]
      refine ⟨g, off + d * size, c - d, cur, by simp [hadd], k1, by omega, by omega, by rw [Nat.sub_mul]; omega, ?_⟩
      rw [← k5, List.drop_take, List.drop_drop, Nat.sub_mul]
/-- The block of a value that append gave is one of this call's. -/
theorem own_ge {v v0 : Value} {W : World} {B : Nat} (h : ∀ k, v.ownBlock = some k → v0.ownBlock = some k ∨ W.heap.size ≤ k) (h0 : ∀ k, v0.ownBlock = some k → B ≤ k) (hB : B ≤ W.heap.size) : ∀ k, v.ownBlock = some k → B ≤ k :=
  fun k hk => (h k hk).elim (h0 k) (Nat.le_trans hB)
theorem own_at {B g o n c : Nat} (h : B ≤ g) : ∀ k, (Value.slice (some ⟨g, o, none⟩) n c).ownBlock = some k → B ≤ k := fun k hk => by
  have x : some g = some k := hk
  cases x
  exact h
theorem own_ne {g g2 o o2 n n2 c c2 : Nat} (h : g ≠ g2) : ∀ k, (Value.slice (some ⟨g, o, none⟩) n c).ownBlock = some k → ¬ (Value.slice (some ⟨g2, o2, none⟩) n2 c2).ownBlock = some k := fun k h1 h2 => by
  have x : some g = some k := h1
  have y : some g2 = some k := h2
  cases x
  cases y
  exact h rfl
/-- A change of blocks that are new is none of what was there. -/
theorem Chg.fresh {w w1 w2 : World} {S : Nat → Prop} (h : Chg (fun _ => False) w w1) (k : Chg S w1 w2) (hS : ∀ i, S i → w.heap.size ≤ i) : Chg (fun _ => False) w w2 :=
  h.trans k (fun _ _ x => x) (fun i hi x => by have := hS i x; omega)
section
variable {α β : Type} {A : Rep α} {B : Rep β} {w : World} {b o k : Nat} {a : α} {F : List Nat} {e : TypeId}
/-- A row in a field, about to be copied, lengthened by one and stored anew. -/
theorem Here.fieldCopy {get : α → List β} {set : α → List β → α} (fl : FieldOf A (B.row e) k get set) (hB : One B) (hA : 0 < A.n) (H : Here A w b o a F) :
    ∃ p cap xs, w.cell? ⟨b, o + k, none⟩ = some (.slice p (get a).length cap) ∧ RowAt w e B.n (.slice p (get a).length cap) (get a).length xs ∧ Ones xs ∧ (get a).length ≤ cap ∧ cap ≤ maxLen ∧ w.frozen? ⟨b, o + k, none⟩ = false ∧
      ∀ w3 x y v3, Chg (fun _ => False) w w3 → B.own w3 x y [] → RowAt w3 e B.n v3 ((get a).length + 1) (xs ++ x) → (∀ j, v3.ownBlock = some j → w.heap.size ≤ j) → Post A w b o (set a (get a ++ [y])) F (w3.setCell ⟨b, o + k, none⟩ v3) := by
  obtain ⟨G1, h1, h2, h3⟩ := H.field fl hA
  obtain ⟨v, xs, Fs, hc, hopen⟩ := h1.openRow
  obtain ⟨p, cap, rfl, hc1, hc2⟩ := hopen.val
  refine ⟨p, cap, xs.flatten, hc, hopen.row, hopen.each.ones hB, hc1, hc2, H.frozen _, fun w3 x y v3 k1 k2 k3 k4 => ?_⟩
  have hnd := h1.nd
  have hlt := h1.lt.2
  rw [hopen.fp] at hnd hlt
  simp only [List.nodup_append, List.mem_append] at hnd hlt
  obtain ⟨q1, q2⟩ := h1.put (w2 := w3) (v := v3) (y := get a ++ [y]) (G' := ownL v3 ++ Fs.flatten) rfl (k1.mono (fun _ _ x => x.elim)) ⟨v3, xs ++ [x], Fs ++ [[]], rfl, by rw [List.length_append, List.flatten_append]; simpa using k3, (hopen.each.keep (k1.keepAll fun _ _ x => x)).append (.cons k2 .nil), by simp⟩
    (by
      rw [List.nodup_append]
      refine ⟨own_le_one _, hnd.2.1, fun i hi j hj e => ?_⟩
      have := k4 i (mem_ownL.1 hi)
      have := hlt j (.inr hj)
      omega)
    (fun j hj => by
      rcases List.mem_append.1 hj with hj | hj
      · exact .inr (k4 j (mem_ownL.1 hj))
      · exact .inl (by rw [hopen.fp]; exact List.mem_append_right _ hj))
  exact h3 _ _ _ q1 q2
end
end Go.Proofs.Ytaacafdlklnegaa
namespace Go.Proofs.Ytaacafdlklnegaa
open Go.RowKit
set_option linter.unusedVariables false

def REntry.Own (w : World) (cs : List Value) (s : REntry) (F : List Nat) : Prop :=
  ∃ vall, ∃ Fall, cs = [.int .i64 (s.page : Int), .int .i64 s.number, .string s.request, vall, .int .i64 s.acked, .bool s.ended, .bool s.closed] ∧ ((Rep.str).row 9).own w [vall] s.all Fall ∧ F = Fall
def renR : Rep REntry where
  n := 7
  own := REntry.Own
  len := by rintro w cs s F ⟨vall, _, rfl, hall, rfl⟩; rfl
  lt := by
    rintro w cs s F ⟨vall, _, rfl, hall, rfl⟩ k hk
    · exact ((Rep.str).row 9).lt hall k hk
  keep := by
    rintro w w2 cs s F ⟨vall, _, rfl, hall, rfl⟩ hk
    exact ⟨_, _, rfl, ((Rep.str).row 9).keep hall (fun k hm => hk k (by simp [hm])), rfl⟩
theorem renR_number : FieldOf renR (Rep.int .i64) 1 (·.number) (fun s y => { s with number := y }) := by
  refine ⟨by show 1 + 1 ≤ 7; omega, ?_⟩
  rintro w cs s F ⟨vall, _, rfl, hall, rfl⟩
  refine ⟨F, [], [], by simp, ⟨rfl, rfl⟩, fun w2 ys y G hk hy => ?_⟩
  obtain ⟨rfl, rfl⟩ := hy
  exact ⟨_, _, rfl, ((Rep.str).row 9).keep hall (fun k hm => hk k (by simp [hm])), by simp⟩
theorem renR_request : FieldOf renR Rep.str 2 (·.request) (fun s y => { s with request := y }) := by
  refine ⟨by show 2 + 1 ≤ 7; omega, ?_⟩
  rintro w cs s F ⟨vall, _, rfl, hall, rfl⟩
  refine ⟨F, [], [], by simp, ⟨rfl, rfl⟩, fun w2 ys y G hk hy => ?_⟩
  obtain ⟨rfl, rfl⟩ := hy
  exact ⟨_, _, rfl, ((Rep.str).row 9).keep hall (fun k hm => hk k (by simp [hm])), by simp⟩
theorem renR_all : FieldOf renR ((Rep.str).row 9) 3 (·.all) (fun s y => { s with all := y }) := by
  refine ⟨by show 3 + 1 ≤ 7; omega, ?_⟩
  rintro w cs s F ⟨vall, _, rfl, hall, rfl⟩
  refine ⟨[], F, [], by simp, hall, fun w2 ys y G hk hy => ?_⟩
  obtain ⟨y0, rfl⟩ : ∃ y0, ys = [y0] := List.length_eq_one_iff.1 (((Rep.str).row 9).len hy)
  exact ⟨_, G, rfl, hy, by simp⟩
theorem renR_acked : FieldOf renR (Rep.int .i64) 4 (·.acked) (fun s y => { s with acked := y }) := by
  refine ⟨by show 4 + 1 ≤ 7; omega, ?_⟩
  rintro w cs s F ⟨vall, _, rfl, hall, rfl⟩
  refine ⟨F, [], [], by simp, ⟨rfl, rfl⟩, fun w2 ys y G hk hy => ?_⟩
  obtain ⟨rfl, rfl⟩ := hy
  exact ⟨_, _, rfl, ((Rep.str).row 9).keep hall (fun k hm => hk k (by simp [hm])), by simp⟩
theorem renR_ended : FieldOf renR Rep.bool 5 (·.ended) (fun s y => { s with ended := y }) := by
  refine ⟨by show 5 + 1 ≤ 7; omega, ?_⟩
  rintro w cs s F ⟨vall, _, rfl, hall, rfl⟩
  refine ⟨F, [], [], by simp, ⟨rfl, rfl⟩, fun w2 ys y G hk hy => ?_⟩
  obtain ⟨rfl, rfl⟩ := hy
  exact ⟨_, _, rfl, ((Rep.str).row 9).keep hall (fun k hm => hk k (by simp [hm])), by simp⟩
theorem renR_closed : FieldOf renR Rep.bool 6 (·.closed) (fun s y => { s with closed := y }) := by
  refine ⟨by show 6 + 1 ≤ 7; omega, ?_⟩
  rintro w cs s F ⟨vall, _, rfl, hall, rfl⟩
  refine ⟨F, [], [], by simp, ⟨rfl, rfl⟩, fun w2 ys y G hk hy => ?_⟩
  obtain ⟨rfl, rfl⟩ := hy
  exact ⟨_, _, rfl, ((Rep.str).row 9).keep hall (fun k hm => hk k (by simp [hm])), by simp⟩

theorem One.ren : One renR := ⟨fun ⟨vall, _, h, hall, _⟩ u hu => by
  subst h
  have h1 := (One.row Rep.str 9).ones hall vall (by simp)
  simp only [List.mem_cons, List.not_mem_nil, or_false] at hu
  rcases hu with rfl | rfl | rfl | rfl | rfl | rfl | rfl <;> first | exact h1 | rfl⟩
def Rep.nat : Rep Nat := Rep.flat 1 (fun n => [.int .i64 (n : Int)]) (fun _ => rfl)
theorem One.nat : One Rep.nat := ⟨fun ⟨h, _⟩ u hu => by subst h; simp only [List.mem_singleton] at hu; subst hu; rfl⟩
def RWorld.Own (w : World) (cs : List Value) (s : RWorld) (F : List Nat) : Prop :=
  ∃ vo vl Fo Fl, cs = [.int .i64 (s.ep 0), .int .i64 (s.ep 1), .int .i64 (s.ep 2), .int .i64 (s.ep 3), vo, vl] ∧ (Rep.nat.row 3).own w [vo] s.order Fo ∧ (renR.row 88).own w [vl] s.l Fl ∧ F = Fo ++ Fl
def rworldR : Rep RWorld where
  n := 6
  own := RWorld.Own
  len := by rintro w cs s F ⟨vo, vl, Fo, Fl, rfl, ho, hl, rfl⟩; rfl
  lt := by
    rintro w cs s F ⟨vo, vl, Fo, Fl, rfl, ho, hl, rfl⟩ k hk
    simp only [List.mem_append] at hk
    rcases hk with hk | hk
    · exact (Rep.nat.row 3).lt ho k hk
    · exact (renR.row 88).lt hl k hk
  keep := by
    rintro w w2 cs s F ⟨vo, vl, Fo, Fl, rfl, ho, hl, rfl⟩ hk
    exact ⟨_, _, _, _, rfl, (Rep.nat.row 3).keep ho (fun k hm => hk k (by simp [hm])), (renR.row 88).keep hl (fun k hm => hk k (by simp [hm])), rfl⟩
theorem rworldR_order : FieldOf rworldR (Rep.nat.row 3) 4 (·.order) (fun s y => { s with order := y }) := by
  refine ⟨by show 4 + 1 ≤ 6; omega, ?_⟩
  rintro w cs s F ⟨vo, vl, Fo, Fl, rfl, ho, hl, rfl⟩
  refine ⟨[], Fo, Fl, by simp, ho, fun w2 ys y G hk hy => ?_⟩
  obtain ⟨y0, rfl⟩ : ∃ y0, ys = [y0] := List.length_eq_one_iff.1 ((Rep.nat.row 3).len hy)
  exact ⟨_, _, G, Fl, rfl, hy, (renR.row 88).keep hl (fun k hm => hk k (by simp [hm])), by simp⟩
theorem rworldR_l : FieldOf rworldR (renR.row 88) 5 (·.l) (fun s y => { s with l := y }) := by
  refine ⟨by show 5 + 1 ≤ 6; omega, ?_⟩
  rintro w cs s F ⟨vo, vl, Fo, Fl, rfl, ho, hl, rfl⟩
  refine ⟨Fo, Fl, [], by simp, hl, fun w2 ys y G hk hy => ?_⟩
  obtain ⟨y0, rfl⟩ : ∃ y0, ys = [y0] := List.length_eq_one_iff.1 ((renR.row 88).len hy)
  exact ⟨_, _, Fo, G, rfl, (Rep.nat.row 3).keep ho (fun k hm => hk k (by simp [hm])), hy, by simp⟩
theorem rworldR_ep (p : Nat) (hp : p < 4) : FieldOf rworldR (Rep.int .i64) p (fun s => s.ep p) (fun s y => { s with ep := upd s.ep p y }) := by
  refine ⟨by show p + 1 ≤ 6; omega, ?_⟩
  rintro w cs s F ⟨vo, vl, Fo, Fl, rfl, ho, hl, rfl⟩
  refine ⟨Fo ++ Fl, [], [], by simp, ?_, fun w2 ys y G hk hy => ?_⟩
  · match p, hp with
    | 0, _ | 1, _ | 2, _ | 3, _ => exact ⟨rfl, rfl⟩
  · obtain ⟨rfl, rfl⟩ := hy
    refine ⟨vo, vl, Fo, Fl, ?_, (Rep.nat.row 3).keep ho (fun k hm => hk k (by simp [hm])), (renR.row 88).keep hl (fun k hm => hk k (by simp [hm])), by simp⟩
    match p, hp with
    | 0, _ | 1, _ | 2, _ | 3, _ => rfl
theorem newR_own (w : World) : rworldR.own w [.int .i64 0, .int .i64 0, .int .i64 0, .int .i64 0, .slice none 0 0, .slice none 0 0] newR [] :=
  ⟨_, _, [], [], rfl, row_flat.2 ⟨_, rfl, RowAt.nil _ _ _, rfl⟩, ⟨_, [], [], rfl, RowAt.nil _ _ _, .nil, rfl⟩, rfl⟩
theorem rworldCells {w : World} {b o : Nat} {s : RWorld} {F : List Nat} (H : Here rworldR w b o s F) : ∃ vo vl, (∀ p, p < 4 → w.cell? ⟨b, o + p, none⟩ = some (.int .i64 (s.ep p))) ∧ w.cell? ⟨b, o + 4, none⟩ = some vo ∧ w.cell? ⟨b, o + 5, none⟩ = some vl ∧ ∃ Fo Fl, (Rep.nat.row 3).own w [vo] s.order Fo ∧ (renR.row 88).own w [vl] s.l Fl ∧ F = Fo ++ Fl := by
  obtain ⟨cs, ⟨vo, vl, Fo, Fl, rfl, ho, hl, hF⟩, hc⟩ := H.cell
  refine ⟨vo, vl, fun p hp => ?_, hc 4 _ rfl, hc 5 _ rfl, Fo, Fl, ho, hl, hF⟩
  match p, hp with
  | 0, _ => exact hc 0 _ rfl
  | 1, _ => exact hc 1 _ rfl
  | 2, _ => exact hc 2 _ rfl
  | 3, _ => exact hc 3 _ rfl
theorem renCells {w : World} {b o : Nat} {s : REntry} {F : List Nat} (H : Here renR w b o s F) : ∃ v, w.cell? ⟨b, o, none⟩ = some (.int .i64 (s.page : Int)) ∧ w.cell? ⟨b, o + 1, none⟩ = some (.int .i64 s.number) ∧ w.cell? ⟨b, o + 2, none⟩ = some (.string s.request) ∧ w.cell? ⟨b, o + 3, none⟩ = some v ∧ w.cell? ⟨b, o + 4, none⟩ = some (.int .i64 s.acked) ∧
    w.cell? ⟨b, o + 5, none⟩ = some (.bool s.ended) ∧ w.cell? ⟨b, o + 6, none⟩ = some (.bool s.closed) ∧ (Rep.str.row 9).own w [v] s.all F := by
  obtain ⟨cs, ⟨v, F1, rfl, h1, rfl⟩, hc⟩ := H.cell
  exact ⟨v, by simpa using hc 0 _ rfl, hc 1 _ rfl, hc 2 _ rfl, hc 3 _ rfl, hc 4 _ rfl, hc 5 _ rfl, hc 6 _ rfl, h1⟩

theorem elem_ren : Elem Try.prog 88 7 72 := elem_of (by kernel_rfl)

set_option maxHeartbeats 1600000 in
set_option maxRecDepth 100000 in
theorem find_any (w : World) (b o : Nat) (s : RWorld) (F : List Nat) (p : Nat) (pi n : Int) (hpi : pi = (p : Int)) (H : Here rworldR w b o s F) :
    Calls Try.prog 37 #[.pointer (some ⟨b, o, none⟩), .int .i64 pi, .int .i64 n] w fun e w' => e = .returned (.int .i64 (rIdx (findR p n s.l 0))) ∧ w = w' := by
  obtain ⟨vo, vl, -, -, c0, F0, F1, -, h0, -⟩ := rworldCells H
  obtain ⟨xs, Fs, hopen⟩ := Rep.opened h0
  obtain ⟨a, cap, rfl, hc1, hc2⟩ := hopen.val
  unfold maxLen at hc2
  have HPI := Lib.hid hpi
  clear hpi
  go_enter Try.func37, Try.ntmps37
  go_wp2_with fail
  go_loop [7] (fun i => ∃ k : Nat, k ≤ s.l.length ∧ i = .int .i64 k ∧ Hid (findR p n s.l 0 = findR p n (s.l.drop k) k)) (fun i => s.l.length - (intOf i).toNat)
  case atStart => exact ⟨0, Nat.zero_le _, rfl, rfl⟩
  case round =>
    obtain ⟨k, hk, rfl, HF⟩ := hrel
    by_cases hlt : k < s.l.length
    · obtain ⟨g, off, cap', hv', _, _, _, _, hat⟩ := hopen.at (by omega)
      simp only [Value.slice.injEq] at hv'
      obtain ⟨rfl, _, rfl⟩ := hv'
      obtain ⟨x, G, ⟨vp, Fp, rfl, _, _⟩, _, hcells⟩ := hat k hlt
      have c0 := hcells 0 _ rfl
      have c1 := hcells 1 _ rfl
      change w.cell? ⟨g, off + k * 7 + 0, none⟩ = some (.int .i64 (s.l[k].page : Int)) at c0
      change w.cell? ⟨g, off + k * 7 + 1, none⟩ = some (.int .i64 s.l[k].number) at c1
      rw [Nat.add_zero] at c0
      have hF := HF.out
      rw [List.drop_eq_getElem_cons hlt, findR] at hF
      have h0' : (0 : Int) ≤ (k : Int) := Int.natCast_nonneg _
      have h3 : (k : Int) < (s.l.length : Int) := by omega
      clear hcells hat
      have hpg : ((s.l[k].page : Int) == pi) = (s.l[k].page == p) := by rw [HPI.out, Bool.eq_iff_iff]; simp; omega
      by_cases hq1 : (s.l[k].page == p) = true
      · rw [hq1] at hpg hF
        by_cases hq : (s.l[k].number == n) = true
        · rw [hq] at hF
          rw [if_pos (by rfl)] at hF
          have HF2 := Lib.hid hF
          generalize (s.l[k].page : Int) = pg at *
          clear hF HF hq1
          go_wp2_with fail
          go_ret
          exact ⟨by rw [HF2.out]; rfl, rfl⟩
        · rw [Bool.not_eq_true] at hq
          rw [hq, if_neg (by simp)] at hF
          have HF2 := Lib.hid hF
          generalize (s.l[k].page : Int) = pg at *
          clear hF HF hq1
          go_wp2_with fail
          go_round
          case rel => exact ⟨k + 1, by omega, by go_num, HF2⟩
          case measure => simp [intOf]; omega
      · rw [Bool.not_eq_true] at hq1
        rw [hq1] at hpg hF
        rw [if_neg (by simp)] at hF
        have HF2 := Lib.hid hF
        generalize (s.l[k].page : Int) = pg at *
        clear hF HF hq1
        go_wp2_with fail
        go_round
        case rel => exact ⟨k + 1, by omega, by go_num, HF2⟩
        case measure => simp [intOf]; omega
    · have hF := HF.out
      rw [List.drop_of_length_le (by omega), findR] at hF
      have HF2 := Lib.hid hF
      clear hF HF
      go_wp2_with fail
      go_ret
      exact ⟨by rw [HF2.out]; rfl, rfl⟩
end Go.Proofs.Ytaacafdlklnegaa
namespace Go.Proofs.Ytaacafdlklnegaa
open Go.RowKit
set_option linter.unusedVariables false

/-- A list of numbers that this call made. -/
structure OInv (w wr : World) (v : Value) (out : List Int) : Prop where
  row : RowAt wr 3 1 v out.length (out.map (Value.int .i64))
  new : ∀ k, v.ownBlock = some k → w.heap.size ≤ k
  chg : Chg (fun _ => False) w wr
theorem OInv.still {w wr wq : World} {v : Value} {out : List Int} (h : OInv w wr v out) (hc : Chg (fun _ => False) wr wq) : OInv w wq v out :=
  ⟨h.row.chg hc (fun _ _ x => x), h.new, h.chg.trans' hc⟩
theorem ren_cell {w wr : World} {b o : Nat} {r : RWorld} {F : List Nat} (H : Here rworldR w b o r F) (hc : Chg (fun _ => False) w wr) {p : Option Addr} {n cap : Nat} (hv : w.cell? ⟨b, o + 5, none⟩ = some (.slice p n cap)) {k : Nat} (hk : k < r.l.length) :
    ∃ g off, p = some ⟨g, off, none⟩ ∧ n = r.l.length ∧ wr.cell? ⟨g, off + k * 7, none⟩ = some (.int .i64 (r.l[k].page : Int)) ∧ wr.cell? ⟨g, off + k * 7 + 1, none⟩ = some (.int .i64 r.l[k].number) ∧ wr.cell? ⟨g, off + k * 7 + 6, none⟩ = some (.bool r.l[k].closed) ∧ wr.cell? ⟨b, o + 5, none⟩ = some (.slice p n cap) := by
  obtain ⟨vo, vl, -, -, c0, F0, F1, -, h0, -⟩ := rworldCells H
  rw [hv] at c0
  cases c0
  obtain ⟨xs, Fs, hopen⟩ := Rep.opened h0
  obtain ⟨g, off, cap', hv', _, _, _, _, hat⟩ := hopen.at (by omega)
  simp only [Value.slice.injEq] at hv'
  obtain ⟨rfl, rfl, rfl⟩ := hv'
  obtain ⟨x, G, ⟨vp, Fp, rfl, _, _⟩, _, hcells⟩ := hat k hk
  have c0 := hcells 0 _ rfl
  change w.cell? ⟨g, off + k * 7 + 0, none⟩ = some (.int .i64 (r.l[k].page : Int)) at c0
  rw [Nat.add_zero] at c0
  exact ⟨g, off, rfl, rfl, hc.cell c0, hc.cell (hcells 1 _ rfl), hc.cell (hcells 6 _ rfl), hc.cell hv⟩
theorem fold_take (p : Nat) (l : List REntry) (k : Nat) (h : k < l.length) : (l.take (k + 1)).foldl (openStep p) [] = openStep p ((l.take k).foldl (openStep p) []) l[k] := by
  rw [List.take_succ_eq_append_getElem h, List.foldl_append]
  rfl
theorem insR_length (out : List Int) (n : Int) : (insR out n).length = out.length + 1 := by
  have := (insR_perm out n).length_eq
  simpa using this
theorem fold_length (p : Nat) : ∀ (l : List REntry) (acc : List Int), (l.foldl (openStep p) acc).length ≤ acc.length + l.length
  | [], acc => by simp
  | x :: l, acc => by
    have := fold_length p l (openStep p acc x)
    rw [List.foldl_cons, List.length_cons]
    have h2 : (openStep p acc x).length ≤ acc.length + 1 := by
      unfold openStep
      split
      · rw [insR_length]; omega
      · omega
    omega

set_option maxHeartbeats 3200000 in
set_option maxRecDepth 100000 in
theorem ropen_any (w : World) (b o : Nat) (r : RWorld) (F : List Nat) (p : Nat) (pi : Int) (hpi : pi = (p : Int)) (H : Here rworldR w b o r F) (hl : Few r.l.length) :
    Calls Try.prog 40 #[.pointer (some ⟨b, o, none⟩), .int .i64 pi] w fun e w' => ∃ v, e = .returned v ∧ OInv w w' v (openR r.l p) := by
  obtain ⟨vo, vl, -, -, c0, F0, F1, -, h0, -⟩ := rworldCells H
  obtain ⟨xs, Fs, hopen⟩ := Rep.opened h0
  obtain ⟨pa, cap, rfl, hc1, hc2⟩ := hopen.val
  clear hopen h0
  have HF := hl.lt
  have hln : (r.l.length : Int) ≤ 9223372036854775807 := by omega
  have HFEW := Lib.hid HF
  have HPI := Lib.hid hpi
  clear hpi hc2 HF hl
  go_enter Try.func40, Try.ntmps40
  go_wp2_with fail
  go_loopw [5, 6] (fun v i wr => ∃ k : Nat, k ≤ r.l.length ∧ i = .int .i64 k ∧ OInv w wr v ((r.l.take k).foldl (openStep p) [])) (fun _ i _ => r.l.length - (intOf i).toNat)
  case atStart => exact ⟨0, Nat.zero_le _, rfl, ⟨RowAt.nil _ _ _, by simp [Value.ownBlock], .refl _ _⟩⟩
  case round =>
    obtain ⟨k, hk, rfl, HI⟩ := hrel
    by_cases hlt : k < r.l.length
    · obtain ⟨g, off, rfl, -, d0, d1, d6, d5⟩ := ren_cell H HI.chg c0 hlt
      have hpg : ((r.l[k].page : Int) != pi) = !(r.l[k].page == p) := by rw [HPI.out, Bool.eq_iff_iff]; simp; omega
      have HS := Lib.hid (fold_take p r.l k hlt)
      have HLE : Hid (((r.l.take k).foldl (openStep p) []).length ≤ r.l.length) := Lib.hid (by have := fold_length p (r.l.take k) []; simp at this; omega)
      have h0 : (0 : Int) ≤ (k : Int) := Int.natCast_nonneg _
      have h1 : (k : Int) < (r.l.length : Int) := by omega
      have wk : IntKind.i64.wrap ((k : Int) + 1) = (k : Int) + 1 := IntWalk.i64_in _ (by omega)
      generalize (r.l.take k).foldl (openStep p) [] = out at *
      obtain ⟨va, vc, rfl, hv1, hv2⟩ := HI.row.slice
      by_cases hq : (r.l[k].page == p && !r.l[k].closed) = true
      · have hq' := hq
        rw [Bool.and_eq_true] at hq'
        obtain ⟨hq1, hq2⟩ := hq'
        have hcl : r.l[k].closed = false := by simpa using hq2
        rw [hq1] at hpg
        rw [hcl] at d6
        have HS2 : Hid ((r.l.take (k + 1)).foldl (openStep p) [] = insR out r.l[k].number) := by rw [HS.out]; exact Lib.hid (by unfold openStep; rw [if_pos hq])
        have HLT := Lib.hid hlt
        generalize (r.l[k].page : Int) = pg at *
        generalize r.l[k].number = n at *
        clear hq hq1 hq2 hcl HS hlt hk
        obtain ⟨wo, rfl⟩ : ∃ wo : World, wo = wr := ⟨_, rfl⟩
        have HI1 := Lib.hid HI
        clear HI
        have hol : (out.length : Int) ≤ 9223372036854775807 := by have := HLE.out; omega
        have HB := Lib.hid HI1.out.chg
        go_upto_block 2 with fail
        go_cut [7] (fun u7 wx => ∃ m : Nat, m ≤ out.length ∧ u7 = .int .i64 m ∧ Hid (insPos out n out.length = m) ∧ Chg (fun _ => False) wo wx)
        case first =>
          go_wp2_with fail
          go_loopw [7] (fun u7 wr => ∃ m : Nat, m ≤ out.length ∧ u7 = .int .i64 m ∧ Hid (insPos out n out.length = insPos out n m) ∧ Chg (fun _ => False) wo wr) (fun u7 _ => (intOf u7).toNat)
          case atStart => exact ⟨out.length, Nat.le_refl _, rfl, rfl, .refl _ _⟩
          case round =>
            obtain ⟨m, hm, rfl, HP, hcm⟩ := hrel
            have e0 := hcm.cell d0
            have e1 := hcm.cell d1
            have e6 := hcm.cell d6
            have e5 := hcm.cell d5
            clear d0 d1 d6 d5
            by_cases hm0 : 0 < m
            · obtain ⟨m', rfl⟩ : ∃ m', m = m' + 1 := ⟨m - 1, by omega⟩
              have hi2 := HI1.out.still hcm
              have hg : ∃ g2 off2, va = some ⟨g2, off2, none⟩ ∧ wr.cell? ⟨g2, off2 + m', none⟩ = some (.int .i64 (out.getD m' 0)) := by
                obtain ⟨g2, off2, cap2, hv, -, -⟩ := hi2.row.addr (by omega)
                cases hv
                refine ⟨g2, off2, rfl, hi2.row.cellAt m' _ ?_⟩
                rw [List.getElem?_map, List.getElem?_eq_getElem (by omega), List.getD_eq_getElem?_getD, List.getElem?_eq_getElem (by omega)]
                rfl
              obtain ⟨g2, off2, rfl, eo⟩ := hg
              have hP := HP.out
              rw [insPos] at hP
              have hw1 : IntKind.i64.wrap ((m' : Int) + 1 - 1) = (m' : Int) := by rw [show (m' : Int) + 1 - 1 = (m' : Int) by omega]; exact IntWalk.i64_in _ (by omega)
              have hm1 : (0 : Int) ≤ (m' : Int) := Int.natCast_nonneg _
              have hm2 : (m' : Int) < (out.length : Int) := by omega
              have hm3 : decide ((0 : Int) < (m' : Int) + 1) = true := decide_eq_true (by omega)
              by_cases hc : n < out.getD m' 0
              · rw [if_pos hc] at hP
                have HP2 := Lib.hid hP
                have hd : decide (n < out.getD m' 0) = true := by simpa using hc
                generalize out.getD m' 0 = z at *
                clear hP HP hi2 hc
                have HMO := Lib.hid hm
                have HCM := Lib.hid hcm
                clear hm hcm hm0
                go_wp2_with fail
                go_quiet (fail)
                go_wp2_with fail
                go_roundw
                case rel => exact ⟨m', by have := HMO.out; omega, by go_num, HP2, HCM.out.drewNR _⟩
                case measure => simp [intOf]; try omega
              · rw [if_neg hc] at hP
                have HP2 := Lib.hid hP
                have hd : decide (n < out.getD m' 0) = false := by simpa using hc
                generalize out.getD m' 0 = z at *
                clear hP HP hi2 hc
                have HMO := Lib.hid hm
                have HCM := Lib.hid hcm
                clear hm hcm hm0
                go_wp2_with fail
                go_quiet (fail)
                go_wp2_with fail
                go_meet
                exact ⟨m' + 1, HMO.out, by go_num, HP2, HCM.out.drewNR _⟩
            · obtain rfl : m = 0 := by omega
              have hm3 : decide ((0 : Int) < ((0 : Nat) : Int)) = false := rfl
              clear hm0
              go_wp2_with fail
              go_quiet (fail)
              go_wp2_with fail
              go_meet
              exact ⟨0, by omega, rfl, Lib.hid (by rw [HP.out]; rfl), hcm.drewNR _⟩
        case rest =>
          obtain ⟨m, hm, rfl, HP, hcm⟩ := hcut
          have e1 := hcm.cell d1
          have e5 := hcm.cell d5
          have HI2 := HI1.out.still hcm
          have HI3 := Lib.hid HI2
          have hm0 : (0 : Int) ≤ (m : Int) := Int.natCast_nonneg _
          have hm1 : (m : Int) ≤ (vc : Int) := by omega
          have hm2 : (m : Int) ≤ (out.length : Int) := by omega
          have ht1 := fun W => run_takeS (P := Try.prog) W 32 3 1 Try.underlying32 (Try.sizeOf3 W) va out.length vc (m : Int) hm0 hm1
          have ht2 := fun W => run_reslS (P := Try.prog) W 32 3 1 Try.underlying32 (Try.sizeOf3 W) va out.length vc (m : Int) hm0 hm2
          rw [Int.toNat_natCast] at ht1 ht2
          generalize hres : reslS 1 va out.length vc m = vr at ht2
          have hX := (HI2.row.drew).prefix hm
          have hY := (HI2.row.drew).suffix hm
          rw [hres, Nat.mul_one] at hY
          rw [Nat.mul_one] at hX
          have HRES := Lib.hid hres
          have HX := Lib.hid hX
          have HY := Lib.hid hY
          have HCUT := Lib.hid hcm
          have HM := Lib.hid hm
          have hfew : out.length < 1000000000 := by have := HLE.out; have := HFEW.out; omega
          have HOF := Lib.hid hfew
          have HE := Lib.hid elem_int
          have hzA : wc.drew.heap.size = wc.heap.size := rfl
          have HZA := Lib.hid hzA
          have hAa := RowAt.freshAt wc.drew 3 1 wc.heap.size rfl
          have hAc := RowAt.freshAt (wc.drew.alloc (.cells #[.int .i64 n] 3)) 3 1 (wc.heap.size + 1) (by simp)
          have hBa := RowAt.singleAt (wc.drew.alloc (.cells #[] 3)) 3 1 (wc.heap.size + 1) #[.int .i64 n] (by simp) rfl
          have hBb := (RowAt.singleAt wc.drew 3 1 wc.heap.size #[.int .i64 n] rfl rfl).alloc (.cells #[] 3)
          have HAa := Lib.hid hAa
          have HAc := Lib.hid hAc
          have HBa := Lib.hid hBa
          have HBb := Lib.hid hBb
          have hOX : Hid (Ones ((out.map (Value.int .i64)).take m)) := Lib.hid (fun u hu => by obtain ⟨y, _, rfl⟩ := List.mem_map.1 (List.mem_of_mem_take hu); rfl)
          have hOY : Hid (Ones ((out.map (Value.int .i64)).drop m)) := Lib.hid (fun u hu => by obtain ⟨y, _, rfl⟩ := List.mem_map.1 (List.mem_of_mem_drop hu); rfl)
          have hO1 : Hid (Ones [Value.int .i64 n]) := Lib.hid (fun u hu => by simp only [List.mem_singleton] at hu; subst hu; rfl)
          have hA0 := Chg.alloc (fun _ => False) wc.drew (.cells #[] 3)
          have hA1 := hA0.allocR (.cells #[.int .i64 n] 3)
          have hA2 := (Chg.alloc (fun _ => False) wc.drew (.cells #[.int .i64 n] 3)).allocR (.cells #[] 3)
          have HA0 := Lib.hid hA0
          have HA1 := Lib.hid hA1
          have HA2 := Lib.hid hA2
          clear hX hY hres hcm hm hfew hzA hAa hAc hBa hBb hA0 hA1 hA2 HI2
          go_wp2_with fail
          go_region_held3 (fun w' => w'.cell? ⟨b, o + 5, none⟩ = some (.slice (some ⟨g, off, none⟩) r.l.length cap) ∧ w'.cell? ⟨g, off + k * 7 + 1, none⟩ = some (.int .i64 n))
            (first | go_keep | exact ⟨hcz.cell e5, hcz.cell e1⟩ | exact ⟨hcq.cell e5, hcq.cell e1⟩ | exact ⟨hcr.cell e5, hcr.cell e1⟩)
            ((first
              | (refine step_append_rows (by rfl) (.tmp 59) (.tmp 62) 32 (by rfl) 3 1 8 Try.underlying32 HE.out (by decide) _ 0 [] (by rfl) HAa.out _ m _ (by rfl) (HX.out.alloc _) hOX.out (by have := HOF.out; have := HM.out; unfold maxLen; omega) (by have := HOF.out; have := HM.out; omega) ?_; intro a2 n2 c2 w2 hrow2 hch2 hold2; have hcz := HA0.out.fresh hch2 (own_at (Nat.le_refl wc.heap.size)); rw [Nat.zero_add, List.nil_append] at hrow2; have hn2 := own_ge hold2 (own_at (Nat.le_refl wc.heap.size)) HA0.out.size)
              | (refine step_append_rows (by rfl) (.tmp 59) (.tmp 62) 32 (by rfl) 3 1 8 Try.underlying32 HE.out (by decide) _ 0 [] (by rfl) (HAa.out.alloc _) _ m _ (by rfl) ((HX.out.alloc _).alloc _) hOX.out (by have := HOF.out; have := HM.out; unfold maxLen; omega) (by have := HOF.out; have := HM.out; omega) ?_; intro a2 n2 c2 w2 hrow2 hch2 hold2; have hcz := HA1.out.fresh hch2 (own_at (Nat.le_refl wc.heap.size)); rw [Nat.zero_add, List.nil_append] at hrow2; have hn2 := own_ge hold2 (own_at (Nat.le_refl wc.heap.size)) HA1.out.size; have hB2 := HBa.out.chg hch2 (own_ne (Nat.succ_ne_self wc.heap.size)))
              | (refine step_append_rows (by rfl) (.tmp 59) (.tmp 62) 32 (by rfl) 3 1 8 Try.underlying32 HE.out (by decide) _ 0 [] (by rfl) HAc.out _ m _ (by rfl) ((HX.out.alloc _).alloc _) hOX.out (by have := HOF.out; have := HM.out; unfold maxLen; omega) (by have := HOF.out; have := HM.out; omega) ?_; intro a2 n2 c2 w2 hrow2 hch2 hold2; have hcz := HA2.out.fresh hch2 (own_at (Nat.le_succ wc.heap.size)); rw [Nat.zero_add, List.nil_append] at hrow2; have hn2 := own_ge hold2 (own_at (Nat.le_succ wc.heap.size)) HA2.out.size; have hB2 := HBb.out.chg hch2 (own_ne (Nat.succ_ne_self wc.heap.size).symm))
              | (refine step_append_rows (by rfl) (.tmp 63) (.tmp 72) 32 (by rfl) 3 1 8 Try.underlying32 HE.out (by decide) _ m _ (by rfl) hrow2 _ 1 _ (by rfl) hB2 hO1.out (by have := HOF.out; have := HM.out; unfold maxLen; omega) (by have := HOF.out; have := HM.out; omega) ?_; intro a3 n3 c3 w3 hrow3 hch3 hold3; have hcq := hcz.fresh hch3 hn2; have hn3 := own_ge hold3 hn2 hcz.size; clear hcz)
              | (refine step_append_rows (by rfl) (.tmp 63) (.tmp 72) 32 (by rfl) 3 1 8 Try.underlying32 HE.out (by decide) _ m _ (by rfl) (hrow2.alloc _) _ 1 _ (by rfl) (RowAt.singleAt w2 3 1 w2.heap.size #[.int .i64 n] rfl rfl) hO1.out (by have := HOF.out; have := HM.out; unfold maxLen; omega) (by have := HOF.out; have := HM.out; omega) ?_; intro a3 n3 c3 w3 hrow3 hch3 hold3; have hcq := (hcz.allocR _).fresh hch3 hn2; have hn3 := own_ge hold3 hn2 (hcz.allocR _).size; clear hcz)
              | (refine step_append_rows (by rfl) (.tmp 73) (.tmp 76) 32 (by rfl) 3 1 8 Try.underlying32 HE.out (by decide) _ (m + 1) _ (by rfl) hrow3 _ (out.length - m) _ (by rfl) (HY.out.chg hcq (fun _ _ x => x)) hOY.out (by have := HOF.out; have := HM.out; unfold maxLen; omega) (by have := HOF.out; have := HM.out; omega) ?_; intro a4 n4 c4 w4 hrow4 hch4 hold4; have hcr := hcq.fresh hch4 hn3; have hn4 := own_ge hold4 hn3 hcq.size; clear hcq)))
          all_goals (
            have HV : Hid (OInv w w4 (.slice a4 n4 c4) ((r.l.take (k + 1)).foldl (openStep p) [])) := Lib.hid (by
              rw [HS2.out]
              refine ⟨?_, fun k hk => Nat.le_trans (HB.out.trans' HCUT.out).size (hn4 k hk), (HB.out.trans' HCUT.out).trans' ((Chg.refl _ wc).drewR.trans' hcr)⟩
              have h4 := hrow4
              unfold insR
              rw [HP.out]
              have hml := HM.out
              rw [show m + 1 + (out.length - m) = out.length + 1 by omega] at h4
              rw [show (out.take m ++ [n] ++ out.drop m).length = out.length + 1 by simp; omega]
              simpa [List.map_take, List.map_drop] using h4)
            clear hrow2 hrow3 hrow4 hch2 hch3 hch4 hold2 hold3 hold4 hn2 hn3 hn4 hcr
            go_wp2_with fail
            go_roundw
            case rel => exact ⟨k + 1, HLT.out, by go_num, HV.out⟩
            case measure => simp [intOf]; omega)
      · have HS2 : Hid ((r.l.take (k + 1)).foldl (openStep p) [] = out) := by rw [HS.out]; exact Lib.hid (by unfold openStep; rw [if_neg hq])
        have HI1 := Lib.hid HI
        by_cases hq1 : (r.l[k].page == p) = true
        · have hcl : r.l[k].closed = true := by rw [hq1] at hq; simpa using hq
          rw [hq1] at hpg
          rw [hcl] at d6
          generalize (r.l[k].page : Int) = pg at *
          clear hq hq1 hcl HS HI
          go_wp2_with fail
          go_roundw
          case rel => exact ⟨k + 1, by omega, by go_num, by rw [HS2.out]; exact HI1.out⟩
          case measure => simp [intOf]; omega
        · rw [Bool.not_eq_true] at hq1
          rw [hq1] at hpg
          generalize (r.l[k].page : Int) = pg at *
          clear hq hq1 HS HI
          go_wp2_with fail
          go_roundw
          case rel => exact ⟨k + 1, by omega, by go_num, by rw [HS2.out]; exact HI1.out⟩
          case measure => simp [intOf]; omega
    · obtain rfl : k = r.l.length := by omega
      rw [List.take_length] at HI
      obtain ⟨va, vc, rfl, -, -⟩ := HI.row.slice
      have d5 := HI.chg.cell c0
      have HI1 := Lib.hid HI
      clear HI
      go_wp2_with fail
      go_ret
      exact ⟨_, rfl, HI1.out⟩
end Go.Proofs.Ytaacafdlklnegaa
namespace Go.Proofs.Ytaacafdlklnegaa
open Go.RowKit
set_option linter.unusedVariables false

set_option maxHeartbeats 1600000 in
set_option maxRecDepth 100000 in
theorem rclaim_any (w : World) (b o : Nat) (r : RWorld) (F : List Nat) (p : Nat) (pi e : Int) (hp : p < 4) (hpi : pi = (p : Int)) (H : Here rworldR w b o r F) (hl : Few r.order.length) :
    Calls Try.prog 38 #[.pointer (some ⟨b, o, none⟩), .int .i64 pi, .int .i64 e] w fun x w' => x = .returned (.int .i64 (claimR r p e).1) ∧ Post rworldR w b o (claimR r p e).2 F w' := by
  subst hpi
  obtain ⟨vo, vl, hep, c4, c5, -⟩ := rworldCells H
  have cp := hep p hp
  have hp0 : (0 : Int) ≤ (p : Int) := Int.natCast_nonneg _
  have hp4 : (p : Int) < 4 := by omega
  have HP := Lib.hid hp
  by_cases h1 : e < 1
  · have hM : claimR r p e = (1, r) := by unfold claimR; rw [if_pos h1]
    rw [hM]
    show Calls _ _ _ _ fun x w' => x = .returned (.int .i64 1) ∧ Post rworldR w b o r F w'
    clear hM hep hp
    go_enter Try.func38, Try.ntmps38
    go_wp2_with fail
    go_ret
    exact ⟨rfl, H.same (.refl _ _)⟩
  by_cases h2 : e < r.ep p
  · have hM : claimR r p e = (14, r) := by unfold claimR; rw [if_neg h1, if_pos h2]
    rw [hM]
    show Calls _ _ _ _ fun x w' => x = .returned (.int .i64 14) ∧ Post rworldR w b o r F w'
    clear hM hep hp
    have hd : decide (e < r.ep p) = true := by simpa using h2
    generalize r.ep p = z at *
    clear h2
    go_enter Try.func38, Try.ntmps38
    go_wp2_with fail
    go_ret
    exact ⟨rfl, H.same (.refl _ _)⟩
  have hd : decide (e < r.ep p) = false := by simpa using h2
  have fz := H.frozen (o + p)
  by_cases h3 : r.ep p = 0
  · have hM : claimR r p e = (0, { r with order := r.order ++ [p], ep := upd r.ep p e }) := by unfold claimR; rw [if_neg h1, if_neg h2, if_pos h3]
    rw [hM]
    show Calls _ _ _ _ fun x w' => x = .returned (.int .i64 0) ∧ Post rworldR w b o { r with order := r.order ++ [p], ep := upd r.ep p e } F w'
    obtain ⟨q, cap, xs, d4, hrow, hones, hle, hcap, fz4, hfin⟩ := H.fieldCopy rworldR_order One.nat (by show 0 < 6; decide)
    rw [c4] at d4
    cases d4
    change RowAt w 3 1 _ _ _ at hrow
    have HE := Lib.hid elem_int
    have HL := Lib.hid hl.lt
    have HON := Lib.hid hones
    have HFIN := Lib.hid hfin
    have hd3 : (r.ep p == 0) = true := by simpa using h3
    have hone : o + 4 ≠ o + p := by omega
    have hA := RowAt.freshAt w 3 1 w.heap.size rfl
    have HA := Lib.hid hA
    have HR := Lib.hid (hrow.alloc (.cells #[] 3))
    have hcA := Chg.alloc (fun _ => False) w (.cells #[] 3)
    have HCA := Lib.hid hcA
    have HO1 : Hid (Ones [Value.int .i64 (p : Int)]) := Lib.hid (fun u hu => by simp only [List.mem_singleton] at hu; subst hu; rfl)
    have HEP := Lib.hid cp
    have hblt := H.lt.1
    have HH := Lib.hid H
    generalize r.ep p = z at *
    clear hM hep hp h2 h3 hrow hA hcA hfin hones H hl
    go_enter Try.func38, Try.ntmps38
    go_wp2_with (first
      | (at_builtin; refine list_append_rows rfl (.tmp 25) (.tmp 29) 32 rfl 3 1 8 Try.underlying32 HE.out (by decide) _ 0 [] (by rfl) HA.out _ r.order.length xs (by rfl) HR.out HON.out (by have := HL.out; unfold maxLen; omega) (by have := HL.out; omega) ?_; intro a2 n2 c2 w2 hrow2 hch2 hold2; have HR2 := Lib.hid hrow2; have hc2 := HCA.out.fresh hch2 (own_at (Nat.le_refl w.heap.size)); have HN2 := Lib.hid (own_ge hold2 (own_at (Nat.le_refl w.heap.size)) HCA.out.size); have d4 := hc2.cell c4; have dp := hc2.cell HEP.out; have HC2 := Lib.hid hc2; clear hrow2 hch2 hold2 hc2)
      | (at_builtin; refine list_append_rows rfl (.tmp 30) (.tmp 32) 32 rfl 3 1 8 Try.underlying32 HE.out (by decide) _ (0 + r.order.length) _ (by rfl) (HR2.out.alloc _) _ 1 _ (by rfl) (RowAt.singleAt w2 3 1 w2.heap.size #[.int .i64 (p : Int)] rfl rfl) HO1.out (by have := HL.out; unfold maxLen; omega) (by have := HL.out; omega) ?_; intro a3 n3 c3 w3 hrow3 hch3 hold3; have hc3 := (HC2.out.allocR _).fresh hch3 HN2.out; have HN3 := Lib.hid (own_ge hold3 HN2.out (HC2.out.allocR _).size); have HR3 := Lib.hid hrow3; have g4 := hc3.cell c4; have gp := hc3.cell HEP.out; have gz4 := (HH.out.still hc3).frozen (o + 4); have gzp := (HH.out.still hc3).frozen (o + p); have HC3 := Lib.hid hc3; clear hrow3 hch3 hold3 hc3))
    go_ret
    refine ⟨rfl, ?_⟩
    have h4 := HR3.out
    rw [Nat.zero_add, List.nil_append] at h4
    have hq := HFIN.out w3 [.int .i64 (p : Int)] p _ HC3.out ⟨rfl, rfl⟩ h4 HN3.out
    exact hq.then (fun F' H' => H'.setPost (rworldR_ep p HP.out) rfl)
  · have hM : claimR r p e = (0, { r with ep := upd r.ep p e }) := by unfold claimR; rw [if_neg h1, if_neg h2, if_neg h3]
    rw [hM]
    show Calls _ _ _ _ fun x w' => x = .returned (.int .i64 0) ∧ Post rworldR w b o { r with ep := upd r.ep p e } F w'
    have hd3 : (r.ep p == 0) = false := by simpa using h3
    have HFIN := Lib.hid (H.setPost (rworldR_ep p hp) (y := e) (v := .int .i64 e) rfl)
    generalize r.ep p = z at *
    clear hM hep hp h2 h3
    go_enter Try.func38, Try.ntmps38
    go_wp2_with fail
    go_ret
    exact ⟨rfl, HFIN.out⟩

theorem str_add (W : World) (a b : ByteArray) (h : a.size + b.size ≤ 9223372036854775807) : (Op.stringOp .add a b).run Try.prog W = .ok (.string (a ++ b)) W := run_string_add_sum (P := Try.prog) W a b h
theorem run_convert_one (W : World) (c : Int) : (convert 35 9 (.slice (some ⟨W.heap.size, 0, none⟩) 1 1)).run Try.prog (W.alloc (.cells #[.int .u8 c] 5)) = .ok (.string ⟨#[UInt8.ofNat c.toNat]⟩) (W.alloc (.cells #[.int .u8 c] 5)) :=
  run_convert_bytes_arg (P := Try.prog) _ 35 5 Try.underlying35 Try.underlying5 W.heap.size 0 1 1 [c] rfl (by
    intro i hi
    match i, hi with
    | 0, _ => exact cell_of_block (alloc_block W _) rfl) 9 Try.underlying9

set_option maxHeartbeats 400000 in
set_option maxRecDepth 100000 in
theorem natural_any (n : Nat) (hn : n < 18446744073709551616) (w : World) :
    Calls Try.prog 46 #[.int .u64 n] w fun e w' => e = .returned (.string ⟨(Kn.enc n).toArray⟩) ∧ Chg (fun _ => False) w w' := by
  have hone := run_convert_one
  have hlen := Kn.enc_len10 hn
  go_enter Try.func46, Try.ntmps46
  go_wp2_with fail
  go_loopw [0, 3] (fun n' s' wr => ∃ (m : Nat) (t : ByteArray), n' = .int .u64 m ∧ m < 18446744073709551616 ∧ s' = .string t ∧ t.size ≤ 10 ∧ Hid (t.data.toList ++ Kn.enc m = Kn.enc n) ∧ Chg (fun _ => False) w wr) (fun n' _ _ => (intOf n').toNat)
  case atStart => exact ⟨n, ByteArray.empty, rfl, hn, rfl, by decide, rfl, Chg.refl _ _⟩
  case round =>
    obtain ⟨m, t, rfl, hm, rfl, ht, HE, hch⟩ := hrel
    have hp := Kn.enc_pos m
    have hl : t.size + (Kn.enc m).length ≤ 10 := by
      have := congrArg List.length HE.out
      rw [List.length_append] at this
      have h2 : t.data.toList.length = t.size := by simp
      omega
    by_cases h128 : 128 ≤ m
    · have HB := Lib.hid (Kn.enc_big h128)
      go_wp2_with fail
      refine ⟨⟨m / 128, _, by simp, by omega, rfl, ?_, ?_, hch.allocR _⟩, by simp [intOf]; omega⟩
      · rw [ByteArray.size_append]
        have : (⟨#[128 + UInt8.ofNat (m % 128)]⟩ : ByteArray).size = 1 := rfl
        omega
      · show _ = _
        rw [← HE.out, HB.out, ByteArray.data_append]
        simp
    · have HB := Lib.hid (Kn.enc_small (n := m) (by omega))
      go_wp2_with fail
      go_ret
      refine ⟨?_, hch.allocR _⟩
      show Ending.returned (.string _) = _
      refine congrArg (fun x => Ending.returned (.string x)) (bytes_ext ?_)
      rw [ByteArray.data_append, ← HE.out, HB.out]
      simp

set_option maxHeartbeats 400000 in
theorem str_any (s : ByteArray) (hs : s.size ≤ 1000000) (w : World) :
    Calls Try.prog 47 #[.string s] w fun e w' => e = .returned (.string ⟨(bytesOf s).toArray⟩) ∧ Chg (fun _ => False) w w' := by
  have hln : (s.size : Int) ≤ 9223372036854775807 := by omega
  have h10 := Kn.enc_len10 (n := s.size) (by omega)
  have hadd := fun W => str_add W ⟨(Kn.enc s.size).toArray⟩ s (by show (Kn.enc s.size).toArray.size + s.size ≤ _; rw [List.size_toArray]; omega)
  have HN : Hid (s.size < 18446744073709551616) := Lib.hid (by omega)
  clear h10 hs
  go_enter Try.func47, Try.ntmps47
  go_wp2_with fail
  refine (natural_any s.size HN.out w).mono ?_
  rintro e w1 ⟨rfl, hc⟩
  go_wp2_with fail
  go_ret
  refine ⟨?_, hc⟩
  refine congrArg (fun x => Ending.returned (.string x)) (bytes_ext ?_)
  rw [ByteArray.data_append]
  simp [bytesOf]
set_option maxHeartbeats 400000 in
theorem truth_any (t : Bool) (w : World) :
    Calls Try.prog 48 #[.bool t] w fun e w' => e = .returned (.string ⟨(bit t).toArray⟩) ∧ w = w' := by
  cases t
  · go_enter Try.func48, Try.ntmps48
    go_wp2_with fail
    go_ret
    exact ⟨rfl, rfl⟩
  · go_enter Try.func48, Try.ntmps48
    go_wp2_with fail
    go_ret
    exact ⟨rfl, rfl⟩
end Go.Proofs.Ytaacafdlklnegaa
namespace Go.Proofs.Ytaacafdlklnegaa
open Go.RowKit
set_option linter.unusedVariables false

/-- An entry of the reference: where it lies, its cells, and the way back. -/
theorem rEntry {w : World} {b o : Nat} {r : RWorld} {F : List Nat} (H : Here rworldR w b o r F) {j : Nat} (hj : j < r.l.length) :
    ∃ g off cap G v, w.cell? ⟨b, o + 5, none⟩ = some (.slice (some ⟨g, off, none⟩) r.l.length cap) ∧ g ≠ b ∧ Here renR w g (off + j * 7) r.l[j] G ∧
      (w.cell? ⟨g, off + j * 7, none⟩ = some (.int .i64 (r.l[j].page : Int)) ∧ w.cell? ⟨g, off + j * 7 + 1, none⟩ = some (.int .i64 r.l[j].number) ∧ w.cell? ⟨g, off + j * 7 + 2, none⟩ = some (.string r.l[j].request) ∧ w.cell? ⟨g, off + j * 7 + 3, none⟩ = some v ∧ w.cell? ⟨g, off + j * 7 + 4, none⟩ = some (.int .i64 r.l[j].acked) ∧ w.cell? ⟨g, off + j * 7 + 5, none⟩ = some (.bool r.l[j].ended) ∧ w.cell? ⟨g, off + j * 7 + 6, none⟩ = some (.bool r.l[j].closed)) ∧
      (Rep.str.row 9).own w [v] r.l[j].all G ∧
      (∀ w' y G', Here renR w' g (off + j * 7) y G' → Step w w' g (off + j * 7) 7 G G' → Post rworldR w b o (r.setE j y) F w') := by
  obtain ⟨g, off, cap, hv⟩ := H.rowAt rworldR_l (by show 0 < 6; decide) (by show 0 < r.l.length; omega)
  obtain ⟨G, HE, hgb, -, -, hback⟩ := H.rowElem rworldR_l (by show 0 < 6; decide) hv hj
  change Here renR w g (off + j * 7) r.l[j] G at HE
  obtain ⟨v, e0, e1, e2, e3, e4, e5, e6, hown⟩ := renCells HE
  exact ⟨g, off, cap, G, v, hv, hgb, HE, ⟨e0, e1, e2, e3, e4, e5, e6⟩, hown, fun w' y G' h1 h2 => (hback w' y G' h1 h2).1⟩
theorem getR {r : RWorld} {j : Nat} (hj : j < r.l.length) : r.l.getD j noR = r.l[j] := by simp [List.getD_eq_getElem?_getD, hj]

set_option maxHeartbeats 1600000 in
set_option maxRecDepth 100000 in
theorem rask_any (w : World) (b o : Nat) (r : RWorld) (F : List Nat) (p : Nat) (pi n ii : Int) (sv : Bool) (req : ByteArray) (hpi : pi = (p : Int)) (hii : ii = rIdx (findR p n r.l 0)) (H : Here rworldR w b o r F) (hl : Few r.l.length) :
    Calls Try.prog 39 #[.pointer (some ⟨b, o, none⟩), .int .i64 pi, .int .i64 n, .int .i64 ii, .bool sv, .string req] w fun x w' => x = .returned (.int .i64 (askR r p n sv req).1) ∧ Post rworldR w b o (askR r p n sv req).2 F w' := by
  cases sv with
  | false =>
    have hM : askR r p n false req = (14, r) := by unfold askR; rw [if_pos rfl]
    rw [hM]
    show Calls _ _ _ _ fun x w' => x = .returned (.int .i64 14) ∧ Post rworldR w b o r F w'
    clear hM hpi hii
    go_enter Try.func39, Try.ntmps39
    go_wp2_with fail
    go_ret
    exact ⟨rfl, H.same (.refl _ _)⟩
  | true =>
    by_cases hn : n < 1
    · have hM : askR r p n true req = (1, r) := by unfold askR; rw [if_neg (by simp), if_pos hn]
      rw [hM]
      show Calls _ _ _ _ fun x w' => x = .returned (.int .i64 1) ∧ Post rworldR w b o r F w'
      clear hM hpi hii
      go_enter Try.func39, Try.ntmps39
      go_wp2_with fail
      go_ret
      exact ⟨rfl, H.same (.refl _ _)⟩
    cases hf : findR p n r.l 0 with
    | some j =>
      have hj : j < r.l.length := by have := findR_lt _ _ _ _ _ hf; omega
      obtain ⟨g, off, cap, G, v, c5, hgb, HE, ⟨e0, e1, e2, e3, e4, e5, e6⟩, -, -⟩ := rEntry H hj
      have hM : askR r p n true req = if (r.l[j].request.toList == req.toList) = true then (0, r) else (9, r) := by unfold askR; rw [if_neg (by simp), if_neg hn, hf]; simp only [getR hj]
      rw [hf] at hii
      rw [hM]
      subst hii
      show Calls Try.prog _ #[.pointer (some ⟨b, o, none⟩), .int .i64 pi, .int .i64 n, .int .i64 (j : Int), .bool true, .string req] w _
      have hj0 : (0 : Int) ≤ (j : Int) := Int.natCast_nonneg _
      have hj1 : (j : Int) < (r.l.length : Int) := by omega
      clear hM hpi hf
      by_cases hq : (r.l[j].request.toList == req.toList) = true
      · rw [if_pos hq]
        show Calls _ _ _ _ fun x w' => x = .returned (.int .i64 0) ∧ Post rworldR w b o r F w'
        have hq2 : (r.l[j].request.toList != req.toList) = false := by rw [bne, hq]; rfl
        go_enter Try.func39, Try.ntmps39
        go_wp2_with fail
        go_ret
        exact ⟨rfl, H.same (.refl _ _)⟩
      · rw [if_neg hq]
        show Calls _ _ _ _ fun x w' => x = .returned (.int .i64 9) ∧ Post rworldR w b o r F w'
        rw [Bool.not_eq_true] at hq
        have hq2 : (r.l[j].request.toList != req.toList) = true := by rw [bne, hq]; rfl
        go_enter Try.func39, Try.ntmps39
        go_wp2_with fail
        go_ret
        exact ⟨rfl, H.same (.refl _ _)⟩
    | none =>
      rw [hf] at hii
      subst hii
      show Calls Try.prog _ #[.pointer (some ⟨b, o, none⟩), .int .i64 pi, .int .i64 n, .int .i64 (-1), .bool true, .string req] w _
      by_cases h64 : 64 ≤ (openR r.l p).length
      · have hM : askR r p n true req = (5, r) := by unfold askR; rw [if_neg (by simp), if_neg hn, hf]; simp only [if_pos h64]
        rw [hM]
        show Calls _ _ _ _ fun x w' => x = .returned (.int .i64 5) ∧ Post rworldR w b o r F w'
        have hd : decide ((64 : Int) ≤ ((openR r.l p).length : Int)) = true := decide_eq_true (by omega)
        have HPI := Lib.hid hpi
        clear hM hf hpi h64
        go_enter Try.func39, Try.ntmps39
        go_wp2_with fail
        refine (ropen_any w b o r F p pi HPI.out H hl).mono ?_
        rintro x w1 ⟨v, rfl, HI⟩
        obtain ⟨va, vc, rfl, -, -⟩ := HI.row.slice
        have HI1 := Lib.hid HI
        clear HI
        go_wp2_with fail
        go_ret
        exact ⟨rfl, H.same HI1.out.chg⟩
      · have hM : askR r p n true req = (0, { r with l := r.l ++ [⟨p, n, req, [], 0, false, false⟩] }) := by unfold askR; rw [if_neg (by simp), if_neg hn, hf]; simp only [if_neg h64]
        rw [hM]
        show Calls _ _ _ _ fun x w' => x = .returned (.int .i64 0) ∧ Post rworldR w b o { r with l := r.l ++ [⟨p, n, req, [], 0, false, false⟩] } F w'
        have hd : decide ((64 : Int) ≤ ((openR r.l p).length : Int)) = false := decide_eq_false (by omega)
        have HPI := Lib.hid hpi
        have HE := Lib.hid elem_ren
        have HL := Lib.hid hl.lt
        clear hM hf hpi h64
        go_enter Try.func39, Try.ntmps39
        go_wp2_with fail
        refine (ropen_any w b o r F p pi HPI.out H hl).mono ?_
        rintro x w1 ⟨v, rfl, HI⟩
        obtain ⟨va, vc, rfl, -, -⟩ := HI.row.slice
        have H1 := H.still HI.chg
        have HH1 := Lib.hid H1
        have HI1 := Lib.hid HI
        obtain ⟨q, cap, xs, c5, hrow, hones, hle, hcap, fz5, hfin⟩ := H1.fieldCopy rworldR_l One.ren (by show 0 < 6; decide)
        change RowAt w1 88 7 _ _ _ at hrow
        have HON := Lib.hid hones
        have HFIN := Lib.hid hfin
        have hblt := H1.lt.1
        have hA := RowAt.freshAt w1 88 7 w1.heap.size rfl
        have HA := Lib.hid hA
        have HR := Lib.hid (hrow.alloc (.cells #[] 88))
        have hcA := Chg.alloc (fun _ => False) w1 (.cells #[] 88)
        have HCA := Lib.hid hcA
        have HC5 := Lib.hid c5
        have HO1 : Hid (Ones [Value.int .i64 pi, Value.int .i64 n, Value.string req, .slice none 0 0, .int .i64 0, .bool false, .bool false]) := Lib.hid (fun u hu => by
          simp only [List.mem_cons, List.not_mem_nil, or_false] at hu
          rcases hu with rfl | rfl | rfl | rfl | rfl | rfl | rfl <;> rfl)
        clear HI H1 hrow hones hfin hA hcA H
        go_wp2_with (first
          | (at_builtin; refine list_append_rows rfl (.tmp 44) (.tmp 48) 56 rfl 88 7 72 Try.underlying56 HE.out (by decide) _ 0 [] (by rfl) HA.out _ r.l.length xs (by rfl) HR.out HON.out (by have := HL.out; unfold maxLen; omega) (by have := HL.out; omega) ?_; intro a2 n2 c2 w2 hrow2 hch2 hold2; have HR2 := Lib.hid hrow2; have hc2 := HCA.out.fresh hch2 (own_at (Nat.le_refl w1.heap.size)); have HN2 := Lib.hid (own_ge hold2 (own_at (Nat.le_refl w1.heap.size)) HCA.out.size); have d5 := hc2.cell HC5.out; have HC2 := Lib.hid hc2; clear hrow2 hch2 hold2 hc2)
          | (at_builtin; refine list_append_rows rfl (.tmp 49) (.tmp 54) 56 rfl 88 7 72 Try.underlying56 HE.out (by decide) _ (0 + r.l.length) _ (by rfl) (HR2.out.alloc _) _ 1 _ (by rfl) (RowAt.singleAt w2 88 7 w2.heap.size #[.int .i64 pi, .int .i64 n, .string req, .slice none 0 0, .int .i64 0, .bool false, .bool false] rfl rfl) HO1.out (by have := HL.out; unfold maxLen; omega) (by have := HL.out; omega) ?_; intro a3 n3 c3 w3 hrow3 hch3 hold3; have hc3 := (HC2.out.allocR _).fresh hch3 HN2.out; have HN3 := Lib.hid (own_ge hold3 HN2.out (HC2.out.allocR _).size); have HR3 := Lib.hid hrow3; have g5 := hc3.cell HC5.out; have gz5 := (HH1.out.still hc3).frozen (o + 5); have HC3 := Lib.hid hc3; clear hrow3 hch3 hold3 hc3))
        go_ret
        refine ⟨rfl, ?_⟩
        have h4 := HR3.out
        rw [Nat.zero_add, List.nil_append] at h4
        refine Post.pre HI1.out.chg (HFIN.out w3 [.int .i64 pi, .int .i64 n, .string req, .slice none 0 0, .int .i64 0, .bool false, .bool false] ⟨p, n, req, [], 0, false, false⟩ _ HC3.out ?_ h4 HN3.out)
        exact ⟨.slice none 0 0, [], by rw [HPI.out], row_flat.2 ⟨_, rfl, RowAt.nil _ _ _, rfl⟩, rfl⟩
end Go.Proofs.Ytaacafdlklnegaa
namespace Go.Proofs.Ytaacafdlklnegaa
open Go.RowKit
set_option linter.unusedVariables false

/-- The string of some bytes. -/
def mk (l : List UInt8) : ByteArray := ⟨l.toArray⟩
theorem mk_size (l : List UInt8) : (mk l).size = l.length := by show l.toArray.size = _; simp
theorem mk_append (a b : List UInt8) : mk a ++ mk b = mk (a ++ b) := by
  refine ByteArray.ext (Array.toList_inj.1 ?_)
  rw [ByteArray.data_append]
  simp [mk]
theorem mk_self (s : ByteArray) : mk s.data.toList = s := by
  refine ByteArray.ext (Array.toList_inj.1 ?_)
  simp [mk]
theorem mk_empty : (⟨#[]⟩ : ByteArray) = mk [] := rfl
theorem mk_inj {a b : List UInt8} (h : a = b) : mk a = mk b := by rw [h]
theorem mk_add {P : Program} (W : World) (a b : List UInt8) (h : a.length + b.length ≤ 9223372036854775807) : (Op.stringOp .add (mk a) (mk b)).run P W = .ok (.string (mk (a ++ b))) W := by
  rw [← mk_append]
  exact run_string_add_sum (P := P) W (mk a) (mk b) (by rw [mk_size, mk_size]; exact h)
/-- One list behind another; simp leaves it alone. -/
def cat (a b : List UInt8) : List UInt8 := a ++ b
theorem cat_length (a b : List UInt8) : (cat a b).length = a.length + b.length := List.length_append
theorem mk_cat {P : Program} (W : World) (a b : List UInt8) (h : a.length + b.length ≤ 9223372036854775807) : (Op.stringOp .add (mk a) (mk b)).run P W = .ok (.string (mk (cat a b))) W := mk_add W a b h
section
variable {α : Type} (f : α → List UInt8)
theorem flatMap_take_le (l : List α) (k : Nat) : ((l.take k).flatMap f).length ≤ (l.flatMap f).length := by
  have h : (l.take k ++ l.drop k).flatMap f = l.flatMap f := by rw [List.take_append_drop]
  rw [← h, List.flatMap_append, List.length_append]; omega
theorem flatMap_take_succ (l : List α) (k : Nat) (h : k < l.length) : (l.take (k + 1)).flatMap f = (l.take k).flatMap f ++ f l[k] := by
  rw [List.take_succ_eq_append_getElem h, List.flatMap_append]
  simp
theorem flatMap_succ_le (l : List α) (k : Nat) (h : k < l.length) : ((l.take k).flatMap f).length + (f l[k]).length ≤ (l.flatMap f).length := by
  have := flatMap_take_le f l (k + 1)
  rw [flatMap_take_succ f l k h, List.length_append] at this
  exact this
end
end Go.Proofs.Ytaacafdlklnegaa
namespace Go.Proofs.Ytaacafdlklnegaa
open Go.RowKit
set_option linter.unusedVariables false

def ownRB (r : RWorld) (p : Nat) : List UInt8 := bytesOf (pageN p) ++ Kn.enc (2 * (r.ep p).toNat)
def headRB (x : REntry) : List UInt8 := bytesOf (pageN x.page) ++ Kn.enc (2 * x.number.toNat) ++ bytesOf x.request
def leftR (x : REntry) : List ByteArray := x.all.drop x.acked.toNat
def footRB (x : REntry) : List UInt8 := Kn.enc (2 * x.acked.toNat) ++ bit x.ended ++ bit x.closed
def entRB (x : REntry) : List UInt8 := headRB x ++ Kn.enc (leftR x).length ++ (leftR x).flatMap bytesOf ++ footRB x
def ordRB (r : RWorld) : List UInt8 := Kn.enc r.order.length ++ r.order.flatMap (ownRB r)
def bytesR (r : RWorld) : List UInt8 := ordRB r ++ Kn.enc r.l.length ++ r.l.flatMap entRB
/-- What the walk asks of an entry. -/
structure EntB (x : REntry) : Prop where
  page : x.page < 4
  num : 0 ≤ x.number ∧ x.number ≤ 1000
  lo : 0 ≤ x.acked
  hi : x.acked ≤ x.all.length
  req : x.request.size ≤ 1000
  few : x.all.length ≤ 1000
  pcs : ∀ y ∈ x.all, y.size ≤ 1000
structure BytesOk (r : RWorld) : Prop where
  few : r.order.length ≤ 1000
  fewl : r.l.length ≤ 1000
  ord : ∀ p ∈ r.order, p < 4 ∧ 0 ≤ r.ep p ∧ r.ep p ≤ 1000
  each : ∀ x ∈ r.l, EntB x
  len : (bytesR r).length ≤ 100000000

theorem natural_mk (n : Nat) (hn : n < 18446744073709551616) (w : World) :
    Calls Try.prog 46 #[.int .u64 n] w fun e w' => e = .returned (.string (mk (Kn.enc n))) ∧ Chg (fun _ => False) w w' := natural_any n hn w
theorem str_mk (s : ByteArray) (hs : s.size ≤ 1000000) (w : World) :
    Calls Try.prog 47 #[.string s] w fun e w' => e = .returned (.string (mk (bytesOf s))) ∧ Chg (fun _ => False) w w' := str_any s hs w
theorem truth_mk (t : Bool) (w : World) :
    Calls Try.prog 48 #[.bool t] w fun e w' => e = .returned (.string (mk (bit t))) ∧ Chg (fun _ => False) w w' := (truth_any t w).mono fun e w' h => ⟨h.1, h.2 ▸ .refl _ _⟩
theorem name_mk (w : World) (p : Nat) (h : p < 4) :
    Calls Try.prog 27 #[.int .u8 (p : Int)] w fun e w' => e = .returned (.string (pageN p)) ∧ Chg (fun _ => False) w w' := (name_any w p p h (by omega) (by omega)).mono fun e w' h => ⟨h.1, h.2 ▸ .refl _ _⟩
theorem order_cell {w wr : World} {b o : Nat} {r : RWorld} {F : List Nat} (H : Here rworldR w b o r F) (hc : Chg (fun _ => False) w wr) {q : Option Addr} {n cap : Nat} (hv : w.cell? ⟨b, o + 4, none⟩ = some (.slice q n cap)) {k : Nat} (hk : k < r.order.length) :
    ∃ g off, q = some ⟨g, off, none⟩ ∧ wr.cell? ⟨g, off + k, none⟩ = some (.int .i64 (r.order[k] : Int)) := by
  obtain ⟨vo, vl, -, c0, -, F0, F1, h0, -⟩ := rworldCells H
  rw [hv] at c0
  cases c0
  obtain ⟨xs, Fs, hopen⟩ := Rep.opened h0
  obtain ⟨g, off, cap', hv', _, _, _, _, hat⟩ := hopen.at (by omega)
  simp only [Value.slice.injEq] at hv'
  obtain ⟨rfl, rfl, rfl⟩ := hv'
  obtain ⟨x, G, ⟨rfl, _⟩, _, hcells⟩ := hat k hk
  have c0 := hcells 0 _ rfl
  change w.cell? ⟨g, off + k * 1 + 0, none⟩ = some (.int .i64 (r.order[k] : Int)) at c0
  rw [Nat.add_zero, Nat.mul_one] at c0
  exact ⟨g, off, rfl, hc.cell c0⟩

set_option maxHeartbeats 3200000 in
set_option maxRecDepth 100000 in
theorem bytesR_any (w : World) (b o : Nat) (r : RWorld) (F : List Nat) (H : Here rworldR w b o r F) (hb : BytesOk r) :
    Calls Try.prog 26 #[.pointer (some ⟨b, o, none⟩)] w fun e w' => e = .returned (.string (mk (bytesR r))) ∧ Chg (fun _ => False) w w' := by
  obtain ⟨vo, vl, hep, c4, c5, Fo, Fl, ho, hl, -⟩ := rworldCells H
  obtain ⟨xs, Fs, hopo⟩ := Rep.opened ho
  obtain ⟨po, co, rfl, ho1, ho2⟩ := hopo.val
  obtain ⟨xl, Gl, hopl⟩ := Rep.opened hl
  obtain ⟨pl, cl, rfl, hl1, hl2⟩ := hopl.val
  have HB := Lib.hid hb
  have HEP := Lib.hid hep
  have HLT := Lib.hid H.lt.1
  have hon : (r.order.length : Int) ≤ 9223372036854775807 := by have := hb.few; omega
  have hln : (r.l.length : Int) ≤ 9223372036854775807 := by have := hb.fewl; omega
  have hO : Hid ((ordRB r).length ≤ 100000000) := Lib.hid (by have := hb.len; unfold bytesR at this; simp only [List.length_append] at this; omega)
  have wo : IntKind.u64.wrap (r.order.length : Int) = (r.order.length : Int) := IntWalk.u64_in _ (by have := hb.few; omega)
  have wl : IntKind.u64.wrap (r.l.length : Int) = (r.l.length : Int) := IntWalk.u64_in _ (by have := hb.fewl; omega)
  have HN1 : Hid (r.order.length < 18446744073709551616) := Lib.hid (by have := hb.few; omega)
  have HN2 : Hid (r.l.length < 18446744073709551616) := Lib.hid (by have := hb.fewl; omega)
  have C4 := Lib.hid c4
  have C5 := Lib.hid c5
  clear hopo hopl ho hl ho1 ho2 hl1 hl2 hep hb
  go_enter Try.func26, Try.ntmps26
  go_wp2_with fail
  refine (natural_mk _ HN1.out _).mono ?_
  rintro e w1 ⟨rfl, hc1⟩
  have HC1 := Lib.hid hc1
  clear hc1
  go_wp2_with fail
  go_loopw [3, 4] (fun u3 u4 wr => ∃ k : Nat, k ≤ r.order.length ∧ u4 = .int .i64 k ∧ u3 = .string (mk (Kn.enc r.order.length ++ (r.order.take k).flatMap (ownRB r))) ∧ Chg (fun _ => False) w wr) (fun _ u4 _ => r.order.length - (intOf u4).toNat)
  case atStart => exact ⟨0, Nat.zero_le _, rfl, by simp, HC1.out⟩
  case round =>
    obtain ⟨k, hk, rfl, rfl, hch⟩ := hrel
    have d4 := hch.cell C4.out
    have d5 := hch.cell C5.out
    by_cases hlt : k < r.order.length
    · obtain ⟨g, off, rfl, e0⟩ := order_cell H hch C4.out hlt
      have HORD : Hid (r.order[k] < 4 ∧ 0 ≤ r.ep r.order[k] ∧ r.ep r.order[k] ≤ 1000) := Lib.hid (HB.out.ord _ (List.getElem_mem hlt))
      have dp := hch.cell (HEP.out _ HORD.out.1)
      have hlen := flatMap_succ_le (ownRB r) r.order k hlt
      have hO2 := hO.out
      unfold ordRB at hO2
      rw [List.length_append] at hO2
      have hsz : (ownRB r r.order[k]).length = (bytesOf (pageN r.order[k])).length + (Kn.enc (2 * (r.ep r.order[k]).toNat)).length := by unfold ownRB; rw [List.length_append]
      have hadd1 := fun W => mk_add (P := Try.prog) W (bytesOf (pageN r.order[k])) (Kn.enc (2 * (r.ep r.order[k]).toNat)) (by omega)
      have hadd2 := fun W => mk_add (P := Try.prog) W (Kn.enc r.order.length ++ (r.order.take k).flatMap (ownRB r)) (bytesOf (pageN r.order[k]) ++ Kn.enc (2 * (r.ep r.order[k]).toNat)) (by simp only [List.length_append] at *; omega)
      have hnext : Hid (Kn.enc r.order.length ++ (r.order.take k).flatMap (ownRB r) ++ (bytesOf (pageN r.order[k]) ++ Kn.enc (2 * (r.ep r.order[k]).toNat)) = Kn.enc r.order.length ++ (r.order.take (k + 1)).flatMap (ownRB r)) := Lib.hid (by rw [flatMap_take_succ _ _ _ hlt, List.append_assoc]; rfl)
      have hps : Hid ((pageN r.order[k]).size ≤ 1000000) := Lib.hid (by rw [pageN_size]; decide)
      generalize Kn.enc r.order.length ++ (r.order.take k).flatMap (ownRB r) = pre at *
      generalize r.order[k] = p at *
      have hz := HORD.out.2
      generalize r.ep p = z at *
      obtain ⟨ep, rfl⟩ : ∃ ep : Nat, z = (ep : Int) := ⟨z.toNat, by omega⟩
      simp only [Int.toNat_natCast] at *
      have HP4 : Hid (p < 4) := Lib.hid HORD.out.1
      have HPE : Hid (2 * ep < 18446744073709551616) := Lib.hid (by have := HORD.out.2.2; omega)
      have wu8 : IntKind.u8.wrap (p : Int) = (p : Int) := IntWalk.u8_in _ (by have := HP4.out; omega)
      have we : IntKind.u64.wrap (ep : Int) = (ep : Int) := IntWalk.u64_in _ (by have := HPE.out; omega)
      have wm : IntKind.u64.wrap (2 * (ep : Int)) = ((2 * ep : Nat) : Int) := by rw [show (2 * (ep : Int)) = ((2 * ep : Nat) : Int) by omega]; exact IntWalk.u64_in _ (by have := HPE.out; omega)
      have hp0 : (0 : Int) ≤ (p : Int) := Int.natCast_nonneg _
      have hp4 : (p : Int) < 4 := by have := HP4.out; omega
      have hk0 : (0 : Int) ≤ (k : Int) := Int.natCast_nonneg _
      have hk1 : (k : Int) < (r.order.length : Int) := by omega
      have HLT' := Lib.hid hlt
      have HCH := Lib.hid hch
      clear hlen hO2 hsz hz HORD hlt hk hch
      go_upto_region 5 with fail
      have m4 := Later.cell d4
      have m0 := Later.cell e0
      have mp := Later.cell dp
      refine wp_region_later (by kernel_rfl) (by kernel_rfl) ?_
      repeat (go_big_quiet_step ((first | (go_at_call 27; exact Later.call (name_mk _ p HP4.out)) | (go_at_call 47; exact Later.call (str_mk _ hps.out _)) | (go_at_call 46; exact Later.call (natural_mk _ HPE.out _)))))
      refine wpQuiet_nil ?_
      rintro _ ⟨y, rfl⟩
      go_wp2_with fail
      go_roundw
      case rel => exact ⟨k + 1, HLT'.out, by go_num, by rw [hnext.out], HCH.out.trans' y.chg⟩
      case measure => have := HLT'.out; simp [intOf]; omega
    · obtain rfl : k = r.order.length := by omega
      rw [List.take_length]
      clear hlt hk
      have hadd := fun W => mk_add (P := Try.prog) W (ordRB r) (Kn.enc r.l.length) (by have := hO.out; have := Kn.enc_len10 HN2.out; omega)
      have HCH := Lib.hid hch
      clear hch
      rw [show Kn.enc r.order.length ++ r.order.flatMap (ownRB r) = ordRB r from rfl]
      go_wp2_with fail
      refine (natural_mk _ HN2.out _).mono ?_
      rintro e w2 ⟨rfl, hc2⟩
      have HC2 := Lib.hid (HCH.out.trans' hc2)
      clear hc2 d4 d5
      go_wp2_with fail
      go_loopw [3, 5] (fun u3 u5 wr => ∃ k : Nat, k ≤ r.l.length ∧ u5 = .int .i64 k ∧ u3 = .string (mk (ordRB r ++ Kn.enc r.l.length ++ (r.l.take k).flatMap entRB)) ∧ Chg (fun _ => False) w wr) (fun _ u5 _ => r.l.length - (intOf u5).toNat)
      case atStart => exact ⟨0, Nat.zero_le _, rfl, by simp, HC2.out⟩
      case round =>
        obtain ⟨k, hk, rfl, rfl, hch⟩ := hrel
        have d5 := hch.cell C5.out
        by_cases hlt : k < r.l.length
        · obtain ⟨g, off, cap, G, v, q5, -, -, ⟨e0, e1, e2, e3, e4, e5, e6⟩, hown, -⟩ := rEntry (H.still hch) hlt
          rw [d5] at q5
          cases q5
          have HX := Lib.hid (HB.out.each _ (List.getElem_mem hlt))
          have hs := seen_strs hown
          have hlen := flatMap_succ_le entRB r.l k hlt
          have hT : (ordRB r ++ Kn.enc r.l.length ++ (r.l.take k).flatMap entRB).length + (entRB r.l[k]).length ≤ 100000000 := by
            have := HB.out.len
            unfold bytesR at this
            simp only [List.length_append] at this ⊢
            omega
          have hnext : Hid (ordRB r ++ Kn.enc r.l.length ++ (r.l.take k).flatMap entRB ++ entRB r.l[k] = ordRB r ++ Kn.enc r.l.length ++ (r.l.take (k + 1)).flatMap entRB) := Lib.hid (by rw [flatMap_take_succ _ _ _ hlt, List.append_assoc])
          have HLT2 := Lib.hid hlt
          generalize ordRB r ++ Kn.enc r.l.length ++ (r.l.take k).flatMap entRB = pre at *
          generalize r.l[k] = x at *
          obtain ⟨xp, xn, xr, xa, xac, xe, xc⟩ := x
          have hxn := HX.out.num
          have hxl := HX.out.lo
          have hxh := HX.out.hi
          dsimp only at *
          obtain ⟨nn, rfl⟩ : ∃ nn : Nat, xn = (nn : Int) := ⟨xn.toNat, by omega⟩
          obtain ⟨ac, rfl⟩ : ∃ ac : Nat, xac = (ac : Int) := ⟨xac.toNat, by omega⟩
          have hL : (xa.drop ac).length ≤ 1000 := by rw [List.length_drop]; have := HX.out.few; dsimp only at this; omega
          unfold entRB headRB footRB leftR at hT
          simp only [List.length_append, Int.toNat_natCast] at hT
          have HXR : Hid (xr.size ≤ 1000000) := Lib.hid (by have := HX.out.req; dsimp only at this; omega)
          have HPG : Hid (xp < 4) := Lib.hid HX.out.page
          have HPC : Hid (∀ y ∈ xa.drop ac, y.size ≤ 1000000) := Lib.hid (fun y hy => by have := HX.out.pcs y (List.mem_of_mem_drop hy); omega)
          have hps : Hid ((pageN xp).size ≤ 1000000) := Lib.hid (by rw [pageN_size]; decide)
          have HNN : Hid (2 * nn < 18446744073709551616) := Lib.hid (by omega)
          have HAC : Hid (2 * ac < 18446744073709551616) := Lib.hid (by have := HX.out.few; dsimp only at this; omega)
          have HLL : Hid ((xa.drop ac).length < 18446744073709551616) := Lib.hid (by omega)
          have hnext2 : Hid (cat (cat (cat (cat pre (cat (cat (bytesOf (pageN xp)) (Kn.enc (2 * nn))) (bytesOf xr))) (Kn.enc (xa.drop ac).length)) ((xa.drop ac).flatMap bytesOf)) (cat (cat (Kn.enc (2 * ac)) (bit xe)) (bit xc)) = ordRB r ++ Kn.enc r.l.length ++ (r.l.take (k + 1)).flatMap entRB) := Lib.hid (by
            rw [← hnext.out]
            simp [entRB, headRB, footRB, leftR, cat, List.append_assoc])
          have a1 := fun W => mk_cat (P := Try.prog) W (bytesOf (pageN xp)) (Kn.enc (2 * nn)) (by omega)
          have a2 := fun W => mk_cat (P := Try.prog) W (cat (bytesOf (pageN xp)) (Kn.enc (2 * nn))) (bytesOf xr) (by simp only [cat_length]; omega)
          have a3 := fun W => mk_cat (P := Try.prog) W pre (cat (cat (bytesOf (pageN xp)) (Kn.enc (2 * nn))) (bytesOf xr)) (by simp only [cat_length]; omega)
          have a4 := fun W => mk_cat (P := Try.prog) W (cat pre (cat (cat (bytesOf (pageN xp)) (Kn.enc (2 * nn))) (bytesOf xr))) (Kn.enc (xa.drop ac).length) (by simp only [cat_length]; omega)
          have a6 := fun W => mk_cat (P := Try.prog) W (Kn.enc (2 * ac)) (bit xe) (by omega)
          have a7 := fun W => mk_cat (P := Try.prog) W (cat (Kn.enc (2 * ac)) (bit xe)) (bit xc) (by simp only [cat_length]; omega)
          have a8 := fun W => mk_cat (P := Try.prog) W (cat (cat (cat pre (cat (cat (bytesOf (pageN xp)) (Kn.enc (2 * nn))) (bytesOf xr))) (Kn.enc (xa.drop ac).length)) ((xa.drop ac).flatMap bytesOf)) (cat (cat (Kn.enc (2 * ac)) (bit xe)) (bit xc)) (by simp only [cat_length]; omega)
          have HT2 : Hid ((cat (cat pre (cat (cat (bytesOf (pageN xp)) (Kn.enc (2 * nn))) (bytesOf xr))) (Kn.enc (xa.drop ac).length)).length + ((xa.drop ac).flatMap bytesOf).length ≤ 100000000) := Lib.hid (by simp only [cat_length]; omega)
          have A8 := Lib.hid a8
          have wu8 : IntKind.u8.wrap (xp : Int) = (xp : Int) := IntWalk.u8_in _ (by have := HPG.out; omega)
          have we : IntKind.u64.wrap (nn : Int) = (nn : Int) := IntWalk.u64_in _ (by have := HNN.out; omega)
          have wm : IntKind.u64.wrap (2 * (nn : Int)) = ((2 * nn : Nat) : Int) := by rw [show (2 * (nn : Int)) = ((2 * nn : Nat) : Int) by omega]; exact IntWalk.u64_in _ (by have := HNN.out; omega)
          have we2 : IntKind.u64.wrap (ac : Int) = (ac : Int) := IntWalk.u64_in _ (by have := HAC.out; omega)
          have wm2 : IntKind.u64.wrap (2 * (ac : Int)) = ((2 * ac : Nat) : Int) := by rw [show (2 * (ac : Int)) = ((2 * ac : Nat) : Int) by omega]; exact IntWalk.u64_in _ (by have := HAC.out; omega)
          have wL : IntKind.u64.wrap ((xa.drop ac).length : Int) = ((xa.drop ac).length : Int) := IntWalk.u64_in _ (by omega)
          obtain ⟨pa, ca, rfl, -, -, -⟩ := id hs
          have hrs := fun W => run_resl W pa (xa.map Value.string).length ca (ac : Int) (Int.natCast_nonneg _) (by simp only [List.length_map]; omega)
          have hse := hs.resl ac (by simp only [List.length_map]; omega)
          rw [List.length_map] at *
          rw [Int.toNat_natCast] at hrs
          rw [← List.map_drop] at hse
          have HS := Lib.hid hse
          obtain ⟨pl2, cl2, hve, hvl, hvm, -⟩ := hse
          rw [List.length_map] at hve hvl
          rw [hve] at hrs HS
          have hLn : ((xa.drop ac).length : Int) ≤ 9223372036854775807 := by omega
          have hk0 : (0 : Int) ≤ (k : Int) := Int.natCast_nonneg _
          have hk1 : (k : Int) < (r.l.length : Int) := by omega
          have HCH2 := Lib.hid hch
          have HWL := Lib.hid wL
          have A4 := Lib.hid a4
          have HXS := Lib.hid hxh
          have hchA := Chg.alloc (fun _ => False) wr (.cells #[.int .i64 (xp : Int), .int .i64 (nn : Int), .string xr, .slice pa xa.length ca, .int .i64 (ac : Int), .bool xe, .bool xc] 88)
          have hg := alloc_block wr (.cells #[.int .i64 (xp : Int), .int .i64 (nn : Int), .string xr, .slice pa xa.length ca, .int .i64 (ac : Int), .bool xe, .bool xc] 88)
          have HCA := Lib.hid hchA
          have HG := Lib.hid hg
          clear hown hlen hT hlt hk hch hs hxn hxl hxh hL hve hvl hvm a4 a8 hchA hg wL
          generalize xa.drop ac = L at *
          go_upto_region 11 with fail
          have HCA2 := HCA.out
          have g1 := HG.out
          clear HCA HG
          generalize wr.alloc (.cells #[.int .i64 (xp : Int), .int .i64 (nn : Int), .string xr, .slice pa xa.length ca, .int .i64 (ac : Int), .bool xe, .bool xc] 88) = wx at *
          have HCW := Lib.hid (HCH2.out.trans' HCA2)
          generalize wr.heap.size = nx at *
          have b0 : wx.cell? ⟨nx, 0, none⟩ = _ := cell_of_block (i := 0) g1 rfl
          have b1 : wx.cell? ⟨nx, 1, none⟩ = _ := cell_of_block (i := 1) g1 rfl
          have b2 : wx.cell? ⟨nx, 2, none⟩ = _ := cell_of_block (i := 2) g1 rfl
          have b3 : wx.cell? ⟨nx, 3, none⟩ = _ := cell_of_block (i := 3) g1 rfl
          have b4 : wx.cell? ⟨nx, 4, none⟩ = _ := cell_of_block (i := 4) g1 rfl
          have b5 : wx.cell? ⟨nx, 5, none⟩ = _ := cell_of_block (i := 5) g1 rfl
          have b6 : wx.cell? ⟨nx, 6, none⟩ = _ := cell_of_block (i := 6) g1 rfl
          have B3 := Lib.hid b3
          have B4 := Lib.hid b4
          have B5 := Lib.hid b5
          have B6 := Lib.hid b6
          have HSX := Lib.hid (HS.out.still HCA2)
          have m0 := Later.cell b0
          have m1 := Later.cell b1
          have m2 := Later.cell b2
          clear HS HCA2 g1 b0 b1 b2 b3 b4 b5 b6 d5 e0 e1 e2 e3 e4 e5 e6
          refine wp_region_later (by kernel_rfl) (by kernel_rfl) ?_
          repeat (go_big_quiet_step ((first | (go_at_call 27; exact Later.call (name_mk _ xp HPG.out)) | (go_at_call 47; exact Later.call (str_mk _ hps.out _)) | (go_at_call 47; exact Later.call (str_mk _ HXR.out _)) | (go_at_call 46; exact Later.call (natural_mk _ HNN.out _)))))
          refine wpQuiet_nil ?_
          rintro _ ⟨y, rfl⟩
          have y3 := y.chg.cell B3.out
          have y4 := y.chg.cell B4.out
          have hac0 : (0 : Int) ≤ (ac : Int) := Int.natCast_nonneg _
          have HY := Lib.hid y.chg
          have wL := HWL.out
          have a4 := A4.out
          clear m0 m1 m2 a1 a2 a3
          go_wp2_with fail
          (with_reducible refine (natural_mk _ HLL.out _).mono ?_)
          rintro e w4 ⟨rfl, hc4⟩
          have HC4 := Lib.hid (HY.out.trans' hc4)
          have HP2 := HT2.out
          generalize cat (cat pre (cat (cat (bytesOf (pageN xp)) (Kn.enc (2 * nn))) (bytesOf xr))) (Kn.enc L.length) = pre2 at *
          clear y3 y4 hc4
          go_wp2_with fail
          go_loopw [3, 8] (fun u3 u8 wq => ∃ m : Nat, m ≤ L.length ∧ u8 = .int .i64 m ∧ u3 = .string (mk (cat pre2 ((L.take m).flatMap bytesOf))) ∧ Chg (fun _ => False) wx wq) (fun _ u8 _ => L.length - (intOf u8).toNat)
          case atStart => exact ⟨0, Nat.zero_le _, rfl, by simp [cat], HC4.out⟩
          case round =>
            obtain ⟨m, hm, rfl, rfl, hcq⟩ := hrel
            by_cases hlt : m < L.length
            · as_aux_lemma =>
                obtain ⟨g2, off2, rfl, eL⟩ := HSX.out.ptr hcq (k := m) (u := .string L[m]) (by simp [hlt])
                have hl2 := flatMap_succ_le bytesOf L m hlt
                have hadd := fun W => mk_cat (P := Try.prog) W (cat pre2 ((L.take m).flatMap bytesOf)) (bytesOf L[m]) (by rw [cat_length]; omega)
                have HNX : Hid (cat (cat pre2 ((L.take m).flatMap bytesOf)) (bytesOf L[m]) = cat pre2 ((L.take (m + 1)).flatMap bytesOf)) := Lib.hid (by rw [flatMap_take_succ _ _ _ hlt]; simp [cat])
                have HLS : Hid (L[m].size ≤ 1000000) := Lib.hid (HPC.out _ (List.getElem_mem hlt))
                have hm0 : (0 : Int) ≤ (m : Int) := Int.natCast_nonneg _
                have hm1 : (m : Int) < (L.length : Int) := by omega
                have HLT3 := Lib.hid hlt
                have HCQ := Lib.hid hcq
                generalize L[m] = lm at *
                generalize cat pre2 ((L.take m).flatMap bytesOf) = pre3 at *
                clear hl2 hlt hm hcq HP2
                go_wp2_with fail
                (with_reducible refine (str_mk _ HLS.out _).mono ?_)
                rintro e w5 ⟨rfl, hc5⟩
                go_wp2_with fail
                go_roundw
                case rel => exact ⟨m + 1, HLT3.out, by go_num, by rw [HNX.out], HCQ.out.trans' hc5⟩
                case measure => have := HLT3.out; simp [intOf]; omega
            · as_aux_lemma =>
                obtain rfl : m = L.length := by omega
                rw [List.take_length]
                have z4 := hcq.cell B4.out
                have z5 := hcq.cell B5.out
                have z6 := hcq.cell B6.out
                have HCQ := Lib.hid hcq
                have a8 := A8.out
                clear hm hlt hcq HP2
                go_upto_region 18 with fail
                have m4 := Later.cell z4
                have m5 := Later.cell z5
                have m6 := Later.cell z6
                clear z4 z5 z6
                refine wp_region_later (by kernel_rfl) (by kernel_rfl) ?_
                repeat (go_big_quiet_step ((first | (go_at_call 46; exact Later.call (natural_mk _ HAC.out _)) | (go_at_call 48; exact Later.call (truth_mk _ _)))))
                refine wpQuiet_nil ?_
                rintro _ ⟨y2, rfl⟩
                have HY2 := Lib.hid (HCW.out.trans' (HCQ.out.trans' y2.chg))
                clear m4 m5 m6 a6 a7 a8
                go_wp2_with fail
                go_roundw
                case rel => exact ⟨k + 1, HLT2.out, by go_num, by rw [hnext2.out], HY2.out⟩
                case measure => have := HLT2.out; simp [intOf]; omega
        · obtain rfl : k = r.l.length := by omega
          rw [List.take_length, show ordRB r ++ Kn.enc r.l.length ++ r.l.flatMap entRB = bytesR r from rfl]
          have HCH3 := Lib.hid hch
          clear hlt hk hch
          go_wp2_with fail
          go_ret
          exact ⟨rfl, HCH3.out⟩
end Go.Proofs.Ytaacafdlklnegaa
namespace Go.Proofs.Ytaacafdlklnegaa
open Go.RowKit
set_option linter.unusedVariables false

/-- What Do leaves. -/
def DoneR (w : World) (b o : Nat) (r : RWorld) (F : List Nat) (t : Told) (e : Ending) (w' : World) : Prop :=
  ∃ vl vn F', e = .returned (.agg #[.int .i64 t.e, vl, .bool t.done, vn]) ∧ Here rworldR w' b o r F' ∧ Step w w' b o 6 F F' ∧
    RowAt w' 9 1 vl t.l.length (t.l.map Value.string) ∧ RowAt w' 3 1 vn t.n.length (t.n.map (Value.int .i64)) ∧
    (∀ k, vl.ownBlock = some k → k ∈ F' ∨ w.heap.size ≤ k) ∧ (∀ k, vn.ownBlock = some k → w.heap.size ≤ k)
structure MidR (w wx : World) (b o n : Nat) (s : RWorld) (F : List Nat) (t : Told) (vl vn : Value) (F' : List Nat) : Prop where
  told : wx.heap[n]? = some (.cells #[.int .i64 t.e, vl, .bool t.done, vn] 50 (0, 0))
  res : ∃ a b c d, wx.heap[w.heap.size + 1]? = some (.cells #[a, b, c, d] 50 (0, 0))
  here : Here rworldR wx b o s F'
  free : w.heap.size + 1 ∉ F'
  step : Step w wx b o 6 F F'
  rl : RowAt wx 9 1 vl t.l.length (t.l.map Value.string)
  rn : RowAt wx 3 1 vn t.n.length (t.n.map (Value.int .i64))
  ownl : ∀ k, vl.ownBlock = some k → k ∈ F' ∨ w.heap.size + 3 ≤ k
  ownn : ∀ k, vn.ownBlock = some k → w.heap.size + 3 ≤ k
section
variable {w wB w' : World} {b o : Nat} {s s' : RWorld} {F : List Nat}
/-- A step, and then stores into new blocks. -/
theorem Step.newerN {F' : List Nat} {n m : Nat} {wx : World} (h : Step w w' b o m F F') (hb : b < n) (hn : w.heap.size ≤ n) (hc : Chg (· = n) w' wx) : Step w wx b o m F F' := by
  refine ⟨h.chg.trans hc (fun _ _ x => x) (fun i hi x => by omega), h.new, fun c T hk => ?_⟩
  obtain ⟨c', h1, h2, h3⟩ := h.rest c T hk
  exact ⟨c', hc.keep h1 (by omega), h2, h3⟩
/-- The state of affairs ahead of the switch. -/
structure PreR (w wB : World) (b o : Nat) (s : RWorld) (F : List Nat) : Prop where
  chg : Chg (fun _ => False) w wB
  size : w.heap.size + 3 ≤ wB.heap.size
  told : wB.heap[w.heap.size + 2]? = some (.cells #[.int .i64 0, .slice none 0 0, .bool false, .slice none 0 0] 50 (0, 0))
  res : wB.heap[w.heap.size + 1]? = some (.cells #[.int .i64 0, .slice none 0 0, .bool false, .slice none 0 0] 50 (0, 0))
  here : Here rworldR w b o s F
theorem PreR.mid (h : PreR w wB b o s F) (e : Int) (hp : Post rworldR wB b o s' F w') :
    ∃ F', MidR w (w'.setCell ⟨w.heap.size + 2, 0, none⟩ (.int .i64 e)) b o (w.heap.size + 2) s' F ⟨e, [], false, []⟩ (.slice none 0 0) (.slice none 0 0) F' := by
  obtain ⟨F', h1, h2⟩ := hp
  obtain ⟨hb, hF⟩ := h.here.lt
  have hn : ∀ k, w.heap.size ≤ k → ¬ (k = b ∨ k ∈ F) := by
    rintro k hk (x | x)
    · omega
    · have := hF k x; omega
  have g2 := h2.chg.keep h.told (hn _ (by omega))
  have g1 := h2.chg.keep h.res (hn _ (by omega))
  have hF' : w.heap.size + 2 ∉ F' := fun x => by
    rcases h2.new _ x with y | y
    · have := hF _ y; omega
    · have := h.size; omega
  have hc := Chg.setCell w' ⟨w.heap.size + 2, 0, none⟩ (.int .i64 e)
  refine ⟨F', ?_, ⟨_, _, _, _, setCell_other _ g1 (by omega)⟩, h1.chg hc (by show ¬ b = w.heap.size + 2; omega) (fun k hk => by show ¬ k = w.heap.size + 2; rintro rfl; exact hF' hk), ?_, ?_, RowAt.nil _ _ _, RowAt.nil _ _ _, by simp [ownB_slice_none], by simp [ownB_slice_none]⟩
  · rw [setCell_block _ g2]; simp
  · intro x
    rcases h2.new _ x with y | y
    · have := hF _ y; omega
    · have := h.size; omega
  · exact ((Step.ofChg h.chg).trans h2).newerN (n := w.heap.size + 2) (by omega) (by omega) hc
/-- Where no error is stored. -/
theorem PreR.mid0 (h : PreR w wB b o s F) (hp : Post rworldR wB b o s' F w') :
    ∃ F', MidR w w' b o (w.heap.size + 2) s' F ⟨0, [], false, []⟩ (.slice none 0 0) (.slice none 0 0) F' := by
  obtain ⟨F', h1, h2⟩ := hp
  obtain ⟨hb, hF⟩ := h.here.lt
  have hn : ∀ k, w.heap.size ≤ k → ¬ (k = b ∨ k ∈ F) := by
    rintro k hk (x | x)
    · omega
    · have := hF k x; omega
  have g2 := h2.chg.keep h.told (hn _ (by omega))
  have g1 := h2.chg.keep h.res (hn _ (by omega))
  refine ⟨F', g2, ⟨_, _, _, _, g1⟩, h1, ?_, (Step.ofChg h.chg).trans h2, RowAt.nil _ _ _, RowAt.nil _ _ _, by simp [ownB_slice_none], by simp [ownB_slice_none]⟩
  intro x
  rcases h2.new _ x with y | y
  · have := hF _ y; omega
  · have := h.size; omega
theorem PreR.midTake (h : PreR w wB b o s F) {l : List ByteArray} {d : Bool} {v : Value} (hv : RowAt wB 9 1 v l.length (l.map Value.string)) (ho : ∀ k, v.ownBlock = some k → k ∈ F) :
    MidR w ((wB.setCell ⟨w.heap.size + 2, 1, none⟩ v).setCell ⟨w.heap.size + 2, 2, none⟩ (.bool d)) b o (w.heap.size + 2) s F ⟨0, l, d, []⟩ v (.slice none 0 0) F := by
  obtain ⟨hb, hF⟩ := h.here.lt
  have hs : Chg (· = w.heap.size + 2) wB ((wB.setCell ⟨w.heap.size + 2, 1, none⟩ v).setCell ⟨w.heap.size + 2, 2, none⟩ (.bool d)) :=
    (Chg.setCell wB ⟨w.heap.size + 2, 1, none⟩ v).trans' (Chg.setCell _ ⟨w.heap.size + 2, 2, none⟩ _)
  refine ⟨?_, ⟨_, _, _, _, setCell_other _ (setCell_other _ h.res (by omega)) (by omega)⟩, (h.here.still h.chg).chg hs (by show ¬ b = w.heap.size + 2; omega) (fun k hk => by show ¬ k = w.heap.size + 2; have := hF k hk; omega), (fun x => by have := hF _ x; omega), ?_, ?_, RowAt.nil _ _ _, fun k hk => .inl (ho k hk), by simp [ownB_slice_none]⟩
  · rw [setCell_block _ (setCell_block _ h.told)]; simp
  · exact (Step.ofChg h.chg).newerN (n := w.heap.size + 2) (by omega) (by omega) hs
  · refine hv.chg hs (fun k hk => ?_)
    have := hF k (ho k hk)
    show ¬ k = w.heap.size + 2
    omega
theorem PreR.midOpen (h : PreR w wB b o s F) {l : List Int} {v : Value} (hi : OInv wB w' v l) :
    MidR w (w'.setCell ⟨w.heap.size + 2, 3, none⟩ v) b o (w.heap.size + 2) s F ⟨0, [], false, l⟩ (.slice none 0 0) v F := by
  obtain ⟨hb, hF⟩ := h.here.lt
  have hc := hi.chg
  have g2 := hc.keep h.told (fun x => x)
  have g1 := hc.keep h.res (fun x => x)
  have hs := Chg.setCell w' ⟨w.heap.size + 2, 3, none⟩ v
  have hz := h.size
  refine ⟨?_, ⟨_, _, _, _, setCell_other _ g1 (by omega)⟩, (h.here.still (h.chg.trans' hc)).chg hs (by show ¬ b = w.heap.size + 2; omega) (fun k hk => by show ¬ k = w.heap.size + 2; have := hF k hk; omega), (fun x => by have := hF _ x; omega), ?_, RowAt.nil _ _ _, ?_, by simp [ownB_slice_none], fun k hk => by have := hi.new k hk; omega⟩
  · rw [setCell_block _ g2]; simp
  · exact (Step.ofChg (h.chg.trans' hc)).newerN (n := w.heap.size + 2) (by omega) (by omega) hs
  · refine hi.row.chg hs (fun k hk => ?_)
    have := hi.new k hk
    show ¬ k = w.heap.size + 2
    omega
/-- The answer's cells behind a change. -/
theorem PreR.kept (h : PreR w wB b o s F) {S : Nat → Prop} (hc : Chg S wB w') (hn : ¬ S (w.heap.size + 2)) :
    w'.cell? ⟨w.heap.size + 2, 0, none⟩ = some (.int .i64 0) ∧ w'.cell? ⟨w.heap.size + 2, 1, none⟩ = some (.slice none 0 0) ∧ w'.cell? ⟨w.heap.size + 2, 2, none⟩ = some (.bool false) ∧ w'.cell? ⟨w.heap.size + 2, 3, none⟩ = some (.slice none 0 0) ∧ ∀ i, w'.frozen? ⟨w.heap.size + 2, i, none⟩ = false := by
  have g := hc.keep h.told hn
  exact ⟨cell_of_block (i := 0) g rfl, cell_of_block (i := 1) g rfl, cell_of_block (i := 2) g rfl, cell_of_block (i := 3) g rfl, fun i => frozen_of_block g⟩
theorem PreR.keptPost (h : PreR w wB b o s F) (hp : Post rworldR wB b o s' F w') :
    w'.cell? ⟨w.heap.size + 2, 0, none⟩ = some (.int .i64 0) ∧ w'.frozen? ⟨w.heap.size + 2, 0, none⟩ = false := by
  obtain ⟨F', h1, h2⟩ := hp
  obtain ⟨hb, hF⟩ := h.here.lt
  obtain ⟨c0, -, -, -, f⟩ := h.kept h2.chg (by rintro (x | x); omega; have := hF _ x; omega)
  exact ⟨c0, f 0⟩
end
/-- The end of Do. -/
theorem Do_end {w wx : World} {b o : Nat} {s : RWorld} {F F' : List Nat} {t : Told} {vl vn : Value} {a : Act} {s0 : RWorld} {x : COp} (h : MidR w wx b o (w.heap.size + 2) s F t vl vn F') (hM : doR s0 x = (t, s))
    (h4 : a.tmps[4]? = some (.pointer (some ⟨w.heap.size + 1, 0, none⟩))) (hd : a.defers = []) (hb : b < w.heap.size) (hF : ∀ k ∈ F, k < w.heap.size) :
    bodyPost Try.prog Try.f24 (fun e w' => DoneR w b o (doR s0 x).2 F (doR s0 x).1 e w') .ret a ((((wx.setCell ⟨w.heap.size + 1, 0, none⟩ (.int .i64 t.e)).setCell ⟨w.heap.size + 1, 1, none⟩ vl).setCell ⟨w.heap.size + 1, 2, none⟩ (.bool t.done)).setCell ⟨w.heap.size + 1, 3, none⟩ vn) := by
  rw [hM]
  obtain ⟨ra, rb, rc, rd, hres⟩ := h.res
  obtain ⟨hbl, hch⟩ := store4 hres (.int .i64 t.e) vl (.bool t.done) vn
  obtain ⟨pl, cl, rfl, -, -⟩ := h.rl.slice
  obtain ⟨pn, cn, rfl, -, -⟩ := h.rn.slice
  have hF' := h.free
  refine bodyPost_ret (v := .agg #[.int .i64 t.e, .slice pl t.l.length cl, .bool t.done, .slice pn t.n.length cn]) ?_ hd ?_
  · have c0 := cell_of_block (i := 0) hbl rfl
    have c1 := cell_of_block (i := 1) hbl rfl
    have c2 := cell_of_block (i := 2) hbl rfl
    have c3 := cell_of_block (i := 3) hbl rfl
    simp [results, Try.results24, go_sem, h4, c0, c1, c2, c3]
  · refine ⟨_, _, F', rfl, h.here.chg hch (by show ¬ b = w.heap.size + 1; omega) (fun k hk => by show ¬ k = w.heap.size + 1; rintro rfl; exact hF' hk), h.step.newerN (n := w.heap.size + 1) (by omega) (by omega) hch, ?_, ?_, fun k hk => (h.ownl k hk).imp id (fun x => by omega), fun k hk => by have := h.ownn k hk; omega⟩
    · exact h.rl.chg hch (fun k hk => by
        show ¬ k = w.heap.size + 1
        rintro rfl
        rcases h.ownl _ hk with x | x
        · exact hF' x
        · omega)
    · exact h.rn.chg hch (fun k hk => by show ¬ k = w.heap.size + 1; have := h.ownn k hk; omega)
end Go.Proofs.Ytaacafdlklnegaa
