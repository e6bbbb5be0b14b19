/-
  The protocol of layer 54: one page is handed from one machine to another one.
-/
import Derived.Test.YtkoopagjjmdodaaPlb
namespace Go.Proofs.Ytkoopagjjmdodaa
open Go.RowKit
set_option linter.unusedVariables false
set_option linter.unusedSimpArgs false
set_option linter.unusedSectionVars false

/-- A page is handed over: its name, from where and to where, the epoch, the letter. -/
structure Trip where
  pg : ByteArray
  a : Int
  b : Int
  e : Int
  letter : ByteArray
namespace Trip
variable (t : Trip)
def L : List ByteArray := partsL t.letter
structure Ok : Prop where
  pg : 1 ≤ t.pg.size ∧ t.pg.size ≤ 200
  a : 0 ≤ t.a
  b : 0 ≤ t.b
  ne : t.a ≠ t.b
  e : 2 ≤ t.e
  few : t.L.length ≤ 20000
def offer : Msg := ⟨1, t.a, t.b, t.pg, t.e, 0, t.L.length, ⟨#[]⟩⟩
def part (i : Nat) : Msg := ⟨2, t.a, t.b, t.pg, t.e, i, t.L.length, t.L.getD i ⟨#[]⟩⟩
def need (i : Nat) : Msg := ⟨3, t.b, t.a, t.pg, t.e, i, 0, ⟨#[]⟩⟩
def taken : Msg := ⟨4, t.b, t.a, t.pg, t.e, 0, 0, ⟨#[]⟩⟩
def cancel : Msg := ⟨5, t.a, t.b, t.pg, t.e, 0, 0, ⟨#[]⟩⟩
def refused : Msg := ⟨6, t.b, t.a, t.pg, t.e, 0, 0, ⟨#[]⟩⟩
end Trip
theorem empty_toList : (⟨#[]⟩ : ByteArray).toList.isEmpty = true := by rw [ByteArray.toList_eq]; rfl
theorem partsL_pos (l : ByteArray) : 1 ≤ (partsL l).length := by
  by_cases h : 1000 < l.size
  · rw [partsL_big h]; simp
  · rw [partsL_small h]; simp
theorem partsL_flat : ∀ (n : Nat) (l : ByteArray), l.size ≤ n → ((partsL l).map (·.data.toList)).flatten = l.data.toList := by
  intro n
  induction n using Nat.strongRecOn with
  | _ n ih =>
    intro l hl
    by_cases h : 1000 < l.size
    · rw [partsL_big h]
      have hs : (l.extract 1000 l.size).size = l.size - 1000 := by rw [ByteArray.size_extract]; omega
      rw [List.map_cons, List.flatten_cons, ih (l.size - 1000) (by omega) _ (by omega), Lib.extract_data, Lib.extract_data]
      have hd : l.data.toList.length = l.size := by simp
      rw [List.take_of_length_le (l := l.data.toList.drop 1000) (by rw [List.length_drop]; omega)]
      simp
    · rw [partsL_small h]; simp
theorem joinL_parts (l : ByteArray) : joinL (partsL l) = l := by
  unfold joinL
  rw [join_nil, partsL_flat l.size l (Nat.le_refl _)]
section
variable {t : Trip} (T : t.Ok)
include T
theorem Trip.Ok.head (a b : Int) (h : a = t.a ∧ b = t.b ∨ a = t.b ∧ b = t.a) (kd ix ct : Int) (d : ByteArray) : (⟨kd, a, b, t.pg, t.e, ix, ct, d⟩ : Msg).headB = true := by
  have h1 := T.a
  have h2 := T.b
  have h3 := T.ne
  have h4 := T.e
  have h5 := T.pg
  unfold Msg.headB
  simp only [Bool.not_eq_true', Bool.or_eq_false_iff, decide_eq_false_iff_not, beq_eq_false_iff_ne]
  refine ⟨⟨⟨⟨by omega, by omega⟩, by omega⟩, by simpa using h5⟩, by omega⟩
omit T in
theorem Trip.pos (t : Trip) : 1 ≤ t.L.length := partsL_pos t.letter
theorem Trip.Ok.offerF : formedB t.offer = true := by
  have h1 := T.few
  have h2 := t.pos
  unfold formedB
  rw [show t.offer.headB = true from T.head t.a t.b (.inl ⟨rfl, rfl⟩) 1 0 _ _]
  have hc : t.offer.countedB = true := by unfold Msg.countedB Trip.offer; simp; omega
  unfold Msg.tailB
  have e3 : t.offer.data.toList.isEmpty = true := empty_toList
  rw [hc, if_pos (show t.offer.kind = 1 from rfl), e3]
  rfl
theorem Trip.Ok.partF (i : Nat) (hi : i < t.L.length) : formedB (t.part i) = true := by
  have h1 := T.few
  unfold formedB
  rw [show (t.part i).headB = true from T.head t.a t.b (.inl ⟨rfl, rfl⟩) 2 _ _ _]
  have hc : (t.part i).countedB = true := by unfold Msg.countedB Trip.part; simp; omega
  have hd : (t.part i).data.size ≤ 1000 := by
    show (t.L.getD i ⟨#[]⟩).size ≤ _
    rw [List.getD_eq_getElem?_getD, List.getElem?_eq_getElem hi]
    exact partsL_each _ _ (Nat.le_refl _) _ (List.getElem_mem _)
  unfold Msg.tailB
  rw [hc, if_neg (show ¬ (t.part i).kind = 1 from by show ¬ (2 : Int) = 1; decide), if_pos (show (t.part i).kind = 2 from rfl)]
  simp only [Bool.true_and, Bool.and_eq_true, decide_eq_true_eq]
  exact ⟨⟨by show (0 : Int) ≤ (i : Int); omega, by show (i : Int) < (t.L.length : Int); omega⟩, by omega⟩
theorem Trip.Ok.needF (i : Nat) (hi : i < t.L.length) : formedB (t.need i) = true := by
  have h1 := T.few
  unfold formedB
  rw [show (t.need i).headB = true from T.head t.b t.a (.inr ⟨rfl, rfl⟩) 3 _ _ _]
  unfold Msg.tailB
  rw [if_neg (show ¬ (t.need i).kind = 1 from by show ¬ (3 : Int) = 1; decide), if_neg (show ¬ (t.need i).kind = 2 from by show ¬ (3 : Int) = 2; decide), if_pos (show (t.need i).kind = 3 from rfl)]
  have e1 : decide (0 ≤ (t.need i).index) = true := decide_eq_true (by show (0 : Int) ≤ (i : Int); omega)
  have e2 : decide ((t.need i).index ≤ 19999) = true := decide_eq_true (by show (i : Int) ≤ 19999; omega)
  have e3 : (t.need i).data.toList.isEmpty = true := empty_toList
  rw [e1, e2, e3]
  rfl
theorem Trip.Ok.takenF : formedB t.taken = true := by
  unfold formedB
  rw [show t.taken.headB = true from T.head t.b t.a (.inr ⟨rfl, rfl⟩) 4 _ _ _]
  have e3 : t.taken.data.toList.isEmpty = true := empty_toList
  unfold Msg.tailB
  rw [e3]
  rfl
theorem Trip.Ok.cancelF : formedB t.cancel = true := by
  unfold formedB
  rw [show t.cancel.headB = true from T.head t.a t.b (.inl ⟨rfl, rfl⟩) 5 _ _ _]
  have e3 : t.cancel.data.toList.isEmpty = true := empty_toList
  unfold Msg.tailB
  rw [e3]
  rfl
theorem Trip.Ok.refusedF : formedB t.refused = true := by
  unfold formedB
  rw [show t.refused.headB = true from T.head t.b t.a (.inr ⟨rfl, rfl⟩) 6 _ _ _]
  have e3 : t.refused.data.toList.isEmpty = true := empty_toList
  unfold Msg.tailB
  rw [e3]
  rfl
end
/-- The receiver does not have the page yet. -/
def Trip.Fresh (t : Trip) (s : Option Seat) : Prop := ∀ x, s = some x → x.state = 5 ∧ x.epoch < t.e ∧ t.e ∉ x.refuses
/-- The receiver has some parts. -/
structure Trip.Recv (t : Trip) (x : Seat) (hv : List Bool) : Prop where
  st : x.state = 4
  ep : x.epoch = t.e
  peer : x.peer = t.a
  hav : x.have_ = hv
  len : x.parts.length = t.L.length
  hlen : hv.length = t.L.length
  at_ : ∀ i : Nat, hv[i]? = some true → x.parts[i]? = t.L[i]?
  ref : t.e ∉ x.refuses
/-- The page runs at the receiver. -/
structure Trip.Run (t : Trip) (x : Seat) : Prop where
  st : x.state = 1
  ep : x.epoch = t.e
  letter : x.letter = t.letter
  ref : t.e ∉ x.refuses
/-- The receiver has refused the page. -/
structure Trip.Ref (t : Trip) (x : Seat) : Prop where
  st : x.state = 0 ∨ x.state = 5
  ref : t.e ∈ x.refuses
section
variable {t : Trip} (T : t.Ok) {x : Seat} {hv : List Bool}
theorem Trip.Recv.known (R : t.Recv x hv) : knownM x t.e = 0 := by
  unfold knownM
  rw [if_neg (by simpa using R.ref), if_neg (by rw [R.st]; simp)]
theorem Trip.Run.known (R : t.Run x) : knownM x t.e = 4 := by
  unfold knownM
  rw [if_neg (by simpa using R.ref), if_pos (by rw [R.st, R.ep]; simp)]
theorem Trip.Ref.known (R : t.Ref x) : knownM x t.e = 6 := by
  unfold knownM
  rw [if_pos (by simpa using R.ref)]
theorem Trip.Recv.from_ (R : t.Recv x hv) {m : Msg} (h1 : m.epoch = t.e) (h2 : m.frm = t.a) : fromB x m = true := by
  unfold fromB
  rw [R.st, R.ep, R.peer, h1, h2]
  simp
theorem Trip.Recv.free (R : t.Recv x hv) : freeM x = false := by
  unfold freeM
  rw [R.st]
  rfl
/-- A part comes in. -/
theorem Trip.Recv.part (R : t.Recv x hv) {i : Nat} (hi : i < t.L.length) : partP t.b x (t.part i) = (some x, []) ∧ hv[i]? = some true ∨
    hv[i]? = some false ∧ (∃ y, partP t.b x (t.part i) = (some y, []) ∧ t.Recv y (hv.set i true) ∧ (hv.set i true).contains false = true ∨ partP t.b x (t.part i) = (some y, [t.taken]) ∧ t.Run y ∧ (hv.set i true).contains false = false) := by
  have hlt : i < hv.length := by have := R.hlen; omega
  have hix : (t.part i).index.toNat = i := by show ((i : Int)).toNat = i; omega
  have hg : x.have_.getD i true = hv[i] := by rw [R.hav, List.getD_eq_getElem?_getD, List.getElem?_eq_getElem hlt]; rfl
  have hpb : partB x (t.part i) = !hv[i] := by
    unfold partB
    rw [R.from_ rfl rfl, R.len, hix, hg]
    rw [show (t.part i).kind = 2 from rfl, show (t.part i).count = (t.L.length : Int) from rfl]
    simp
  unfold partP
  rw [hpb]
  cases hx : hv[i] with
  | true => exact .inl ⟨rfl, by rw [List.getElem?_eq_getElem hlt, hx]⟩
  | false =>
    refine .inr ⟨by rw [List.getElem?_eq_getElem hlt, hx], ?_⟩
    have hh : (gotS x (t.part i)).have_ = hv.set i true := by show x.have_.set _ _ = _; rw [R.hav, hix]
    have hp : (gotS x (t.part i)).parts = x.parts.set i (t.L.getD i ⟨#[]⟩) := by show x.parts.set _ _ = _; rw [hix]; rfl
    have hat : ∀ j : Nat, (hv.set i true)[j]? = some true → (gotS x (t.part i)).parts[j]? = t.L[j]? := by
      intro j hj
      rw [hp]
      by_cases hij : i = j
      · subst hij
        rw [List.getElem?_set_self (by have := R.len; omega), List.getD_eq_getElem?_getD, List.getElem?_eq_getElem hi]
        rfl
      · rw [List.getElem?_set_ne hij] at hj ⊢
        exact R.at_ j hj
    rw [hh]
    cases hc : (hv.set i true).contains false with
    | true =>
      refine ⟨gotS x (t.part i), .inl ⟨rfl, ⟨R.st, R.ep, R.peer, hh, ?_, ?_, hat, R.ref⟩, rfl⟩⟩
      · rw [hp, List.length_set]; exact R.len
      · rw [List.length_set]; exact R.hlen
    | false =>
      refine ⟨_, .inr ⟨rfl, ⟨rfl, rfl, ?_, R.ref⟩, rfl⟩⟩
      have hall : (gotS x (t.part i)).parts = t.L := by
        have hl : (gotS x (t.part i)).parts.length = t.L.length := by rw [hp, List.length_set]; exact R.len
        refine List.ext_getElem? fun j => ?_
        by_cases hj : j < t.L.length
        · refine hat j ?_
          have hjl : j < (hv.set i true).length := by rw [List.length_set]; have := R.hlen; omega
          rw [List.getElem?_eq_getElem hjl]
          cases hb : (hv.set i true)[j] with
          | true => rfl
          | false =>
            have : (hv.set i true).contains false = true := by
              rw [List.contains_iff_mem]
              rw [← hb]; exact List.getElem_mem _
            rw [hc] at this
            cases this
        · rw [List.getElem?_eq_none (by omega), List.getElem?_eq_none (by omega)]
      show joinL (gotS x (t.part i)).parts = t.letter
      rw [hall]
      exact joinL_parts t.letter
/-- A seat that receives from now on. -/
theorem Trip.recv_new (s : Seat) (hr : t.e ∉ s.refuses) {m : Msg} (h1 : m.epoch = t.e) (h2 : m.frm = t.a) (h3 : m.count = t.L.length) : t.Recv (recvS s m) (List.replicate t.L.length false) := by
  have hc : m.count.toNat = t.L.length := by rw [h3]; omega
  refine ⟨rfl, h1, h2, ?_, ?_, by simp, ?_, hr⟩
  · show List.replicate m.count.toNat false = _
    rw [hc]
  · show (List.replicate m.count.toNat _).length = _
    rw [hc]; simp
  · intro i hi
    rw [List.getElem?_replicate] at hi
    split at hi
    · cases hi
    · cases hi
section
include T
theorem Trip.Ok.ask {s : Option Seat} {m : Msg} (hf : formedB m = true) (hd : m.dst = t.b) (hk : m.kind = 1 ∨ m.kind = 2 ∨ m.kind = 5) : recvP t.b s m = if askedP s m ≠ 0 then (s, [ansP t.b m (askedP s m)]) else if m.kind = 5 then cancelP t.b s m else acceptP t.b s m := by
  unfold recvP
  rw [if_neg (by rw [hf, hd]; simp), if_pos hk]
theorem Trip.Ok.runs (R : t.Run x) {m : Msg} (hm : m = t.offer ∨ (∃ i, i < t.L.length ∧ m = t.part i) ∨ m = t.cancel) : recvP t.b (some x) m = (some x, [t.taken]) := by
  have hk := R.known
  rcases hm with rfl | ⟨i, hi, rfl⟩ | rfl
  · rw [T.ask T.offerF rfl (.inl rfl)]
    show (if knownM x t.e ≠ 0 then (some x, [ansP t.b t.offer (knownM x t.e)]) else _) = _
    rw [hk]; rfl
  · rw [T.ask (T.partF i hi) rfl (.inr (.inl rfl))]
    show (if knownM x t.e ≠ 0 then (some x, [ansP t.b (t.part i) (knownM x t.e)]) else _) = _
    rw [hk]; rfl
  · rw [T.ask T.cancelF rfl (.inr (.inr rfl))]
    show (if knownM x t.e ≠ 0 then (some x, [ansP t.b t.cancel (knownM x t.e)]) else _) = _
    rw [hk]; rfl
theorem Trip.Ok.refs (R : t.Ref x) {m : Msg} (hm : m = t.offer ∨ (∃ i, i < t.L.length ∧ m = t.part i) ∨ m = t.cancel) : recvP t.b (some x) m = (some x, [t.refused]) := by
  have hk := R.known
  rcases hm with rfl | ⟨i, hi, rfl⟩ | rfl
  · rw [T.ask T.offerF rfl (.inl rfl)]
    show (if knownM x t.e ≠ 0 then (some x, [ansP t.b t.offer (knownM x t.e)]) else _) = _
    rw [hk]; rfl
  · rw [T.ask (T.partF i hi) rfl (.inr (.inl rfl))]
    show (if knownM x t.e ≠ 0 then (some x, [ansP t.b (t.part i) (knownM x t.e)]) else _) = _
    rw [hk]; rfl
  · rw [T.ask T.cancelF rfl (.inr (.inr rfl))]
    show (if knownM x t.e ≠ 0 then (some x, [ansP t.b t.cancel (knownM x t.e)]) else _) = _
    rw [hk]; rfl
theorem Trip.Fresh.known {s : Option Seat} (R : t.Fresh s) {m : Msg} (he : m.epoch = t.e) : askedP s m = 0 := by
  unfold askedP
  cases s with
  | none => rfl
  | some x =>
    obtain ⟨h1, h2, h3⟩ := R x rfl
    show knownM x m.epoch = 0
    unfold knownM
    rw [he, if_neg (by simpa using h3), if_neg (by rintro ⟨-, h⟩; omega)]
theorem Trip.Ok.recvOffer (R : t.Recv x hv) : recvP t.b (some x) t.offer = (some x, []) := by
  rw [T.ask T.offerF rfl (.inl rfl), if_neg (by show ¬ knownM x t.e ≠ 0; rw [R.known]; simp), if_neg (by show ¬ (1 : Int) = 5; decide)]
  show (if freeM x = true then _ else partP t.b x t.offer) = _
  rw [R.free, if_neg (by decide)]
  unfold partP
  rw [if_neg]
  unfold partB
  show ¬ ((((1 : Int) == 2) && _ && _ && _) = true)
  simp
theorem Trip.Ok.recvPart (R : t.Recv x hv) {i : Nat} (hi : i < t.L.length) : recvP t.b (some x) (t.part i) = partP t.b x (t.part i) := by
  rw [T.ask (T.partF i hi) rfl (.inr (.inl rfl)), if_neg (by show ¬ knownM x t.e ≠ 0; rw [R.known]; simp), if_neg (by show ¬ (2 : Int) = 5; decide)]
  show (if freeM x = true then _ else partP t.b x (t.part i)) = _
  rw [R.free, if_neg (by decide)]
theorem Trip.Ok.recvCancel (R : t.Recv x hv) : ∃ y, recvP t.b (some x) t.cancel = (some y, [t.refused]) ∧ t.Ref y := by
  rw [T.ask T.cancelF rfl (.inr (.inr rfl)), if_neg (by show ¬ knownM x t.e ≠ 0; rw [R.known]; simp), if_pos (show t.cancel.kind = 5 from rfl)]
  unfold cancelP
  simp only
  rw [R.free, R.from_ (m := t.cancel) rfl rfl]
  refine ⟨refuseS x t.e, rfl, ?_⟩
  unfold refuseS
  rw [if_pos R.st]
  exact ⟨.inl rfl, by show t.e ∈ x.refuses ++ [t.e]; simp⟩
theorem Trip.Ok.freshOffer {s : Option Seat} (R : t.Fresh s) : ∃ y, recvP t.b s t.offer = (some y, []) ∧ t.Recv y (List.replicate t.L.length false) := by
  rw [T.ask T.offerF rfl (.inl rfl), if_neg (by rw [R.known T rfl]; simp), if_neg (by show ¬ (1 : Int) = 5; decide)]
  have hpb : ∀ y, partP t.b y t.offer = (some y, []) := fun y => by
    unfold partP
    rw [if_neg]
    unfold partB
    show ¬ ((((1 : Int) == 2) && _ && _ && _) = true)
    simp
  unfold acceptP
  cases s with
  | none => exact ⟨_, hpb _, Trip.recv_new (blankSeat t.pg) (by simp [blankSeat]) rfl rfl rfl⟩
  | some x =>
    obtain ⟨h1, h2, h3⟩ := R x rfl
    simp only
    rw [if_pos (by unfold freeM; rw [h1]; rfl)]
    exact ⟨_, hpb _, Trip.recv_new x h3 rfl rfl rfl⟩
theorem Trip.Ok.freshPart {s : Option Seat} (R : t.Fresh s) {i : Nat} (hi : i < t.L.length) : ∃ y, t.Recv y (List.replicate t.L.length false) ∧ recvP t.b s (t.part i) = partP t.b y (t.part i) := by
  rw [T.ask (T.partF i hi) rfl (.inr (.inl rfl)), if_neg (by rw [R.known T rfl]; simp), if_neg (by show ¬ (2 : Int) = 5; decide)]
  unfold acceptP
  cases s with
  | none => exact ⟨_, Trip.recv_new (blankSeat t.pg) (by simp [blankSeat]) rfl rfl rfl, rfl⟩
  | some x =>
    obtain ⟨h1, h2, h3⟩ := R x rfl
    simp only
    rw [if_pos (by unfold freeM; rw [h1]; rfl)]
    exact ⟨_, Trip.recv_new x h3 rfl rfl rfl, rfl⟩
theorem Trip.Ok.freshCancel {s : Option Seat} (R : t.Fresh s) : ∃ y, recvP t.b s t.cancel = (some y, [t.refused]) ∧ t.Ref y := by
  rw [T.ask T.cancelF rfl (.inr (.inr rfl)), if_neg (by rw [R.known T rfl]; simp), if_pos (show t.cancel.kind = 5 from rfl)]
  unfold cancelP
  cases s with
  | none => exact ⟨_, rfl, .inl rfl, by show t.e ∈ [t.e]; simp⟩
  | some x =>
    obtain ⟨h1, h2, h3⟩ := R x rfl
    simp only
    rw [if_pos (by unfold freeM; rw [h1]; rfl)]
    refine ⟨_, rfl, ?_⟩
    unfold refuseS
    rw [if_neg (by rw [h1]; decide)]
    exact ⟨.inr h1, by show t.e ∈ x.refuses ++ [t.e]; simp⟩
end
end
/-- The sender. -/
structure Trip.Off (t : Trip) (x : Seat) (st : Int) : Prop where
  st : x.state = st
  ep : x.epoch = t.e
  peer : x.peer = t.b
  letter : x.letter = t.letter
  page : x.page = t.pg
section
variable {t : Trip} (T : t.Ok) {x : Seat}
include T
theorem Trip.Ok.needed (R : t.Off x 2) {i : Nat} (hi : i < t.L.length) : recvP t.a (some x) (t.need i) = (some x, [t.part i]) := by
  unfold recvP
  rw [if_neg (by rw [T.needF i hi]; simp [Trip.need]), if_neg (by show ¬ ((3 : Int) = 1 ∨ (3 : Int) = 2 ∨ (3 : Int) = 5); decide), if_pos (show (t.need i).kind = 3 from rfl)]
  unfold needP
  simp only
  have hix : (t.need i).index.toNat = i := by show ((i : Int)).toNat = i; omega
  rw [if_pos ⟨by rw [R.st, R.ep, R.peer]; simp [Trip.need], by rw [hix, R.letter]; exact hi⟩, R.letter, R.peer, R.ep, R.page, hix]
  rfl
theorem Trip.Ok.unneeded (hs : x.state ≠ 2) {i : Nat} (hi : i < t.L.length) : recvP t.a (some x) (t.need i) = (some x, []) := by
  unfold recvP
  rw [if_neg (by rw [T.needF i hi]; simp [Trip.need]), if_neg (by show ¬ ((3 : Int) = 1 ∨ (3 : Int) = 2 ∨ (3 : Int) = 5); decide), if_pos (show (t.need i).kind = 3 from rfl)]
  unfold needP
  simp only
  rw [if_neg]
  rintro ⟨h, -⟩
  simp only [Bool.and_eq_true, beq_iff_eq] at h
  exact hs h.1.1
theorem Trip.Ok.settled {m : Msg} (hm : m = t.taken ∨ m = t.refused) : recvP t.a (some x) m = (some (settleM x m), []) := by
  unfold recvP
  rcases hm with rfl | rfl
  · rw [if_neg (by rw [T.takenF]; simp [Trip.taken]), if_neg (by show ¬ ((4 : Int) = 1 ∨ (4 : Int) = 2 ∨ (4 : Int) = 5); decide), if_neg (by show ¬ (4 : Int) = 3; decide)]
    rfl
  · rw [if_neg (by rw [T.refusedF]; simp [Trip.refused]), if_neg (by show ¬ ((6 : Int) = 1 ∨ (6 : Int) = 2 ∨ (6 : Int) = 5); decide), if_neg (by show ¬ (6 : Int) = 3; decide)]
    rfl
theorem Trip.Ok.settle {st : Int} (R : t.Off x st) (hs : st = 2 ∨ st = 3) {m : Msg} (h1 : m.epoch = t.e) (h2 : m.frm = t.b) : settleM x m = if m.kind = 4 then { resetS x 5 x.epoch with letter := ⟨#[]⟩ } else resetS x 1 (x.epoch + 1) := by
  unfold settleM
  rw [if_pos]
  rw [R.st, R.ep, R.peer, h1, h2]
  rcases hs with rfl | rfl <;> simp
theorem Trip.Ok.unsettle (h : x.state ≠ 2 ∧ x.state ≠ 3) (m : Msg) : settleM x m = x := by
  unfold settleM
  rw [if_neg]
  simp only [Bool.and_eq_true, Bool.or_eq_true, beq_iff_eq]
  rintro ⟨⟨h1 | h1, -⟩, -⟩
  · exact h.1 h1
  · exact h.2 h1
end
theorem Trip.tickOff {t : Trip} {x : Seat} (R : t.Off x 2) : tickS t.a x = [t.offer] := by
  unfold tickS
  rw [if_pos R.st]
  unfold offerMsg Trip.offer
  rw [R.peer, R.page, R.ep, R.letter]
  rfl
theorem Trip.tickCan {t : Trip} {x : Seat} (R : t.Off x 3) : tickS t.a x = [t.cancel] := by
  unfold tickS
  rw [if_neg (by rw [R.st]; decide), if_pos R.st]
  unfold cancelMsg Trip.cancel
  rw [R.peer, R.page, R.ep]
theorem tick_else {id : Int} {x : Seat} (h : x.state = 0 ∨ x.state = 1 ∨ x.state = 5) : tickS id x = [] := by
  unfold tickS
  rw [if_neg (by omega), if_neg (by omega), if_neg (by omega)]
theorem Trip.tickRecv {t : Trip} {x : Seat} {hv : List Bool} (R : t.Recv x hv) (hp : x.page = t.pg) : tickS t.b x = ((missing hv 0).take 16).map t.need := by
  unfold tickS
  rw [if_neg (by rw [R.st]; decide), if_neg (by rw [R.st]; decide), if_pos R.st, R.hav]
  refine List.map_congr_left fun k _ => ?_
  unfold needMsg Trip.need
  rw [R.peer, hp, R.ep]
end Go.Proofs.Ytkoopagjjmdodaa
