/-
  The machine of layer 54: what it holds stays within bounds.
-/
import Derived.Test.YtkoopagjjmdodaaPla
namespace Go.Proofs.Ytkoopagjjmdodaa
open Go.RowKit
set_option linter.unusedVariables false
set_option linter.unusedSimpArgs false

/-- The bounds of a seat. -/
structure SeatIn (n : Nat) (s : Seat) : Prop where
  ok : SeatOk s
  refuses : s.refuses.length ≤ n
  lo : 0 ≤ s.epoch
  hi : s.epoch ≤ n
  letter : s.letter.size ≤ 20000000
  page : s.page.size ≤ 200
/-- The bounds of a message. -/
structure MsgIn (n : Nat) (m : Msg) : Prop where
  lo : 0 ≤ m.epoch
  hi : m.epoch ≤ n
  page : m.page.size ≤ 200
  data : m.data.size ≤ 1000
/-- The bounds of a machine: n for the seats, their epochs and refusals, k for what goes out. -/
structure HostIn (n k : Nat) (h : Host) : Prop where
  out : h.out.length ≤ k
  outs : ∀ m ∈ h.out, MsgIn n m
  seats : h.seats.length ≤ n
  each : ∀ s ∈ h.seats, SeatIn n s
theorem HostIn.ok {n k : Nat} {h : Host} (H : HostIn n k h) (hn : n < 1000000000) (hk : k < 1000000000) : HostOk h :=
  ⟨⟨by have := H.out; omega⟩, ⟨by have := H.seats; omega⟩, fun s hs => by
    have h1 := H.each s hs
    have := h1.refuses
    have := h1.lo
    have := h1.hi
    have := h1.letter
    exact ⟨h1.ok, by omega, by omega, ⟨by omega⟩⟩⟩
theorem SeatIn.mono {n n' : Nat} {s : Seat} (H : SeatIn n s) (hn : n ≤ n') : SeatIn n' s := ⟨H.ok, by have := H.refuses; omega, H.lo, by have := H.hi; omega, H.letter, H.page⟩
theorem MsgIn.mono {n n' : Nat} {s : Msg} (H : MsgIn n s) (hn : n ≤ n') : MsgIn n' s := ⟨H.lo, by have := H.hi; omega, H.page, H.data⟩
theorem HostIn.mono {n k n' k' : Nat} {h : Host} (H : HostIn n k h) (hn : n ≤ n') (hk : k ≤ k') : HostIn n' k' h :=
  ⟨by have := H.out; omega, fun m hm => (H.outs m hm).mono hn, by have := H.seats; omega, fun s hs => (H.each s hs).mono hn⟩
theorem seatOk_nil {s : Seat} (h5 : s.parts = []) (h6 : s.have_ = []) : SeatOk s := ⟨by rw [h5, h6]; rfl, by rw [h5]; simp, by rw [h5]; simp⟩
theorem blank_in (n : Nat) {page : ByteArray} (hp : page.size ≤ 200) : SeatIn n (blankSeat page) := ⟨seatOk_nil rfl rfl, Nat.zero_le _, Int.le_refl _, by show (0 : Int) ≤ n; omega, by show 0 ≤ 20000000; omega, hp⟩
theorem reset_in {n n' : Nat} {s : Seat} {st ep : Int} (H : SeatIn n s) (hn : n ≤ n') (h0 : 0 ≤ ep) (h1 : ep ≤ n') : SeatIn n' (resetS s st ep) :=
  ⟨seatOk_nil rfl rfl, by show s.refuses.length ≤ n'; have := H.refuses; omega, h0, h1, H.letter, H.page⟩
theorem refuse_in {n : Nat} {s : Seat} {ep : Int} (H : SeatIn n s) : SeatIn (n + 1) (refuseS s ep) := by
  unfold refuseS
  have h2 := H.refuses
  have h3 := H.hi
  split
  · exact ⟨seatOk_nil rfl rfl, by show (s.refuses ++ [ep]).length ≤ _; rw [List.length_append]; simp; omega, Int.le_refl _, by show (0 : Int) ≤ ((n + 1 : Nat) : Int); omega, H.letter, H.page⟩
  · exact ⟨⟨H.ok.same, H.ok.few, H.ok.small⟩, by show (s.refuses ++ [ep]).length ≤ _; rw [List.length_append]; simp; omega, H.lo, by show s.epoch ≤ ((n + 1 : Nat) : Int); omega, H.letter, H.page⟩
theorem settle_in {n : Nat} {s : Seat} {m : Msg} (H : SeatIn n s) : SeatIn (n + 1) (settleM s m) := by
  unfold settleM
  have h3 := H.lo
  have h4 := H.hi
  split
  · split
    · exact ⟨seatOk_nil rfl rfl, by show s.refuses.length ≤ _; have := H.refuses; omega, h3, by show s.epoch ≤ ((n + 1 : Nat) : Int); omega, by show 0 ≤ 20000000; omega, H.page⟩
    · exact reset_in H (Nat.le_succ _) (by omega) (by omega)
  · exact H.mono (Nat.le_succ _)
theorem recv_in {n : Nat} {s : Seat} {m : Msg} (H : SeatIn n s) (hc : m.count ≤ 20000) (h0 : 0 ≤ m.epoch) (h1 : m.epoch ≤ n) : SeatIn n (recvS s m) :=
  ⟨recvS_ok s m hc, H.refuses, h0, h1, by show 0 ≤ 20000000; omega, H.page⟩
theorem got_in {n : Nat} {s : Seat} {m : Msg} (H : SeatIn n s) (hd : m.data.size ≤ 1000) : SeatIn n (gotS s m) :=
  ⟨⟨by simp [gotS, H.ok.same], by simpa [gotS] using H.ok.few, fun p hp => by
    rcases List.mem_or_eq_of_mem_set hp with x | rfl
    · exact H.ok.small p x
    · exact hd⟩, H.refuses, H.lo, H.hi, H.letter, H.page⟩
theorem joinL_size {l : List ByteArray} (h : ∀ p ∈ l, p.size ≤ 1000) : (joinL l).size ≤ l.length * 1000 := by
  have := join_len l 1000 h
  show (Lib.join _ []).toArray.size ≤ _
  simpa using this
theorem got_done {n : Nat} {s : Seat} {m : Msg} (H : SeatIn n s) (h0 : 0 ≤ m.epoch) (h1 : m.epoch ≤ n) : SeatIn n { resetS s 1 m.epoch with letter := joinL s.parts } :=
  ⟨seatOk_nil rfl rfl, H.refuses, h0, h1, by show (joinL s.parts).size ≤ _; have := joinL_size H.ok.small; have := H.ok.few; omega, H.page⟩
theorem in_get {n k : Nat} {h : Host} (H : HostIn n k h) (j : Nat) {d : Seat} (hd : SeatIn n d) : SeatIn n (h.seats.getD j d) := by
  rw [List.getD_eq_getElem?_getD]
  cases hj : h.seats[j]? with
  | none => exact hd
  | some x => exact H.each x (List.mem_of_getElem? hj)
theorem in_set {n k n' k' : Nat} {h : Host} {j : Nat} {y : Seat} (H : HostIn n k h) (hn : n ≤ n') (hk : k ≤ k') (hy : SeatIn n' y) : HostIn n' k' { h with seats := h.seats.set j y } :=
  ⟨by have := H.out; show h.out.length ≤ _; omega, fun m hm => (H.outs m hm).mono hn, by show (h.seats.set j y).length ≤ _; rw [List.length_set]; have := H.seats; omega, fun s hs => by
    rcases List.mem_or_eq_of_mem_set hs with x | rfl
    · exact (H.each s x).mono hn
    · exact hy⟩
theorem in_push {n k k' : Nat} {h : Host} {y : Seat} (H : HostIn n k h) (hk : k ≤ k') (hy : SeatIn (n + 1) y) : HostIn (n + 1) k' { h with seats := h.seats ++ [y] } :=
  ⟨by have := H.out; show h.out.length ≤ _; omega, fun m hm => (H.outs m hm).mono (Nat.le_succ _), by show (h.seats ++ [y]).length ≤ _; rw [List.length_append]; have := H.seats; simp; omega, fun s hs => by
    rcases List.mem_append.1 hs with x | x
    · exact (H.each s x).mono (Nat.le_succ _)
    · rw [List.mem_singleton.1 x]; exact hy⟩
theorem in_out {n k : Nat} {h : Host} {ms : List Msg} (H : HostIn n k h) (hm : ∀ m ∈ ms, MsgIn n m) : HostIn n (k + ms.length) { h with out := h.out ++ ms } :=
  ⟨by show (h.out ++ ms).length ≤ _; rw [List.length_append]; have := H.out; omega, fun m hx => by
    rcases List.mem_append.1 hx with x | x
    · exact H.outs m x
    · exact hm m x, H.seats, H.each⟩
theorem in_out1 {n k : Nat} {h : Host} {m : Msg} (H : HostIn n k h) (hm : MsgIn n m) : HostIn n (k + 1) { h with out := h.out ++ [m] } :=
  in_out (ms := [m]) H (fun x hx => by rw [List.mem_singleton.1 hx]; exact hm)
theorem ans_in {n : Nat} {h : Host} {m : Msg} {kd : Int} (hm : MsgIn n m) : ∀ x ∈ [answerM h m kd], MsgIn n x := fun x hx => by
  rw [List.mem_singleton.1 hx]
  exact ⟨hm.lo, hm.hi, hm.page, by show 0 ≤ 1000; omega⟩
theorem part_in {n k : Nat} {h : Host} {j : Nat} {m : Msg} (H : HostIn n k h) (hm : MsgIn n m) : HostIn n (k + 1) (partM h j m) := by
  unfold partM
  have hx := in_get H j (blank_in n hm.page)
  split
  · have hg := got_in hx hm.data
    split
    · exact in_set H (Nat.le_refl _) (Nat.le_succ _) hg
    · exact in_out (in_set (j := j) H (Nat.le_refl _) (Nat.le_refl _) (got_done hg hm.lo hm.hi)) (ans_in (h := h) hm)
  · exact H.mono (Nat.le_refl _) (Nat.le_succ _)
theorem accept_in {n k : Nat} {h : Host} {m : Msg} (H : HostIn n k h) (hm : MsgIn n m) (hc : m.count ≤ 20000) : HostIn (n + 1) (k + 1) (acceptM h m) := by
  unfold acceptM
  cases findS m.page h.seats 0 with
  | none => exact part_in (in_push H (Nat.le_refl _) ((recv_in (blank_in n hm.page) hc hm.lo hm.hi).mono (Nat.le_succ _))) (hm.mono (Nat.le_succ _))
  | some j =>
    simp only
    split
    · exact (part_in (in_set (j := j) H (Nat.le_refl _) (Nat.le_refl _) (recv_in (in_get H j (blank_in n hm.page)) hc hm.lo hm.hi)) hm).mono (Nat.le_succ _) (Nat.le_refl _)
    · exact (part_in H hm).mono (Nat.le_succ _) (Nat.le_refl _)
theorem cancel_in {n k : Nat} {h : Host} {m : Msg} (H : HostIn n k h) (hm : MsgIn n m) : HostIn (n + 1) (k + 1) (cancelM h m) := by
  unfold cancelM
  have hb := blank_in n hm.page
  cases findS m.page h.seats 0 with
  | none =>
    refine in_out (h := { h with seats := h.seats ++ [{ blankSeat m.page with refuses := [m.epoch] }] }) (in_push H (Nat.le_refl _) ⟨seatOk_nil rfl rfl, by show 1 ≤ _; omega, Int.le_refl _, by show (0 : Int) ≤ ((n + 1 : Nat) : Int); omega, by show 0 ≤ 20000000; omega, hm.page⟩) (ans_in (h := h) (hm.mono (Nat.le_succ _)))
  | some j =>
    simp only
    split
    · exact in_out (in_set (j := j) H (Nat.le_succ _) (Nat.le_refl _) (refuse_in (in_get H j hb))) (ans_in (h := h) (hm.mono (Nat.le_succ _)))
    · exact H.mono (Nat.le_succ _) (Nat.le_succ _)
theorem partsL_each : ∀ (n : Nat) (l : ByteArray), l.size ≤ n → ∀ p ∈ partsL l, p.size ≤ 1000 := by
  intro n
  induction n using Nat.strongRecOn with
  | _ n ih =>
    intro l hl p hp
    by_cases h : 1000 < l.size
    · rw [partsL_big h] at hp
      have hs : (l.extract 1000 l.size).size = l.size - 1000 := by rw [ByteArray.size_extract]; omega
      rcases List.mem_cons.1 hp with rfl | hp
      · rw [ByteArray.size_extract]; omega
      · exact ih (l.size - 1000) (by omega) _ (by omega) p hp
    · rw [partsL_small h] at hp
      rw [List.mem_singleton.1 hp]; omega
theorem need_in {n k : Nat} {h : Host} {m : Msg} (H : HostIn n k h) (hm : MsgIn n m) : HostIn n (k + 1) (needM h m) := by
  unfold needM
  cases findS m.page h.seats 0 with
  | none => exact H.mono (Nat.le_refl _) (Nat.le_succ _)
  | some j =>
    have hx := in_get H j (blank_in n hm.page)
    simp only
    split
    · rename_i hq
      refine in_out1 H ?_
      refine ⟨hx.lo, hx.hi, hx.page, ?_⟩
      show ((partsL _).getD m.index.toNat ⟨#[]⟩).size ≤ 1000
      rw [List.getD_eq_getElem?_getD, List.getElem?_eq_getElem hq.2]
      exact partsL_each _ _ (Nat.le_refl _) _ (List.getElem_mem _)
    · exact H.mono (Nat.le_refl _) (Nat.le_succ _)
theorem settled_in {n k : Nat} {h : Host} {m : Msg} (H : HostIn n k h) (hm : MsgIn n m) : HostIn (n + 1) k (settledM h m) := by
  unfold settledM
  cases findS m.page h.seats 0 with
  | none => exact H.mono (Nat.le_succ _) (Nat.le_refl _)
  | some j => exact in_set H (Nat.le_succ _) (Nat.le_refl _) (settle_in (in_get H j (blank_in n hm.page)))
theorem receive_in {n k : Nat} {h : Host} {m : Msg} (H : HostIn n k h) (hm : MsgIn n m) : HostIn (n + 1) (k + 1) (receiveM h m) := by
  unfold receiveM
  by_cases h1 : formedB m = false ∨ m.dst ≠ h.id
  · rw [if_pos h1]
    exact H.mono (Nat.le_succ _) (Nat.le_succ _)
  · rw [if_neg h1]
    have hf : formedB m = true := by
      cases hx : formedB m with
      | true => rfl
      | false => exact absurd (.inl hx) h1
    split
    · rename_i hk
      split
      · exact (in_out H (ans_in hm)).mono (Nat.le_succ _) (Nat.le_refl _)
      · split
        · exact cancel_in H hm
        · exact accept_in H hm (formed_counted hf (by omega)).1.2
    · split
      · exact (need_in H hm).mono (Nat.le_succ _) (Nat.le_refl _)
      · exact (settled_in H hm).mono (Nat.le_refl _) (Nat.le_succ _)
theorem tickS_in {n : Nat} {s : Seat} (id : Int) (H : SeatIn n s) : ∀ m ∈ tickS id s, MsgIn n m := by
  intro m hm
  unfold tickS at hm
  split at hm
  · rw [List.mem_singleton.1 hm]; exact ⟨H.lo, H.hi, H.page, by show 0 ≤ 1000; omega⟩
  · split at hm
    · rw [List.mem_singleton.1 hm]; exact ⟨H.lo, H.hi, H.page, by show 0 ≤ 1000; omega⟩
    · split at hm
      · obtain ⟨k, -, rfl⟩ := List.mem_map.1 hm
        exact ⟨H.lo, H.hi, H.page, by show 0 ≤ 1000; omega⟩
      · cases hm
theorem tick_in {n k : Nat} {h : Host} (H : HostIn n k h) : HostIn n (k + n * 16) (tickM h) := by
  refine (in_out H (ms := h.seats.flatMap (tickS h.id)) (fun m hm => ?_)).mono (Nat.le_refl _) ?_
  · obtain ⟨s, hs, hm⟩ := List.mem_flatMap.1 hm
    exact tickS_in h.id (H.each s hs) m hm
  · have := tick_len h.id h.seats
    have h2 : h.seats.length * 16 ≤ n * 16 := Nat.mul_le_mul_right _ H.seats
    omega
theorem partMsgs_mem (id : Int) (s : Seat) (n : Nat) : ∀ (l : List ByteArray) (k : Nat) (m : Msg), m ∈ partMsgs id s n l k → ∃ p ∈ l, m.data = p ∧ m.page = s.page ∧ m.epoch = s.epoch
  | [], _, m, h => by cases h
  | u :: l, k, m, h => by
    rw [partMsgs] at h
    rcases List.mem_cons.1 h with rfl | h
    · exact ⟨u, List.mem_cons_self .., rfl, rfl, rfl⟩
    · obtain ⟨p, hp, h2⟩ := partMsgs_mem id s n l (k + 1) m h
      exact ⟨p, List.mem_cons_of_mem _ hp, h2⟩
theorem new_in {n : Nat} {page : ByteArray} (hp : page.size ≤ 200) (hn : 1 ≤ n) : SeatIn n (newSeat page) := ⟨seatOk_nil rfl rfl, Nat.zero_le _, by show (0 : Int) ≤ 1; omega, by show (1 : Int) ≤ n; omega, by show 0 ≤ 20000000; omega, hp⟩
theorem start_in {n k : Nat} {h : Host} {page : ByteArray} (H : HostIn n k h) : HostIn (n + 1) k (startM h page).2 := by
  unfold startM
  split
  · exact H.mono (Nat.le_succ _) (Nat.le_refl _)
  · rename_i hp
    split
    · exact H.mono (Nat.le_succ _) (Nat.le_refl _)
    · exact in_push H (Nat.le_refl _) (new_in (by omega) (by omega))
theorem withdraw_in {n k : Nat} {h : Host} {page : ByteArray} (hp : page.size ≤ 200) (hn : 1 ≤ n) (H : HostIn n k h) : HostIn n (k + 1) (withdrawM h page).2 := by
  unfold withdrawM
  cases findS page h.seats 0 with
  | none => exact H.mono (Nat.le_refl _) (Nat.le_succ _)
  | some j =>
    have hx := in_get H j (new_in hp hn)
    simp only
    split
    · exact H.mono (Nat.le_refl _) (Nat.le_succ _)
    · refine in_out1 (in_set (j := j) (y := { h.seats.getD j (newSeat page) with state := 3 }) H (Nat.le_refl _) (Nat.le_refl _) ⟨⟨hx.ok.same, hx.ok.few, hx.ok.small⟩, hx.refuses, hx.lo, hx.hi, hx.letter, hx.page⟩) ?_
      exact ⟨hx.lo, hx.hi, hx.page, by show 0 ≤ 1000; omega⟩
theorem hand_in {n k : Nat} {h : Host} {page letter : ByteArray} {dst : Int} (hp : page.size ≤ 200) (hn : 1 ≤ n) (hl : letter.size ≤ 16777216) (H : HostIn n k h) : HostIn (n + 1) (k + 20000) (handM h page letter dst).2 := by
  unfold handM
  have hz : HostIn (n + 1) (k + 20000) h := H.mono (Nat.le_succ _) (by omega)
  cases findS page h.seats 0 with
  | none => exact hz
  | some j =>
    have hx := in_get H j (new_in hp hn)
    simp only
    split
    · exact hz
    · split
      · exact hz
      · split
        · exact hz
        · have hlo := hx.lo
          have hhi := hx.hi
          have hseat : SeatIn (n + 1) { h.seats.getD j (newSeat page) with state := 2, peer := dst, letter := letter, epoch := (h.seats.getD j (newSeat page)).epoch + 1 } :=
            ⟨⟨hx.ok.same, hx.ok.few, hx.ok.small⟩, by have := hx.refuses; show (h.seats.getD j (newSeat page)).refuses.length ≤ _; omega, by show 0 ≤ _ + (1 : Int); omega, by show _ + (1 : Int) ≤ ((n + 1 : Nat) : Int); omega, by show letter.size ≤ _; omega, hx.page⟩
          refine (in_out (in_set (j := j) H (Nat.le_succ _) (Nat.le_refl _) hseat) (fun m hm => ?_)).mono (Nat.le_refl _) ?_
          · rcases List.mem_cons.1 hm with rfl | hm
            · exact ⟨hseat.lo, hseat.hi, hseat.page, by show 0 ≤ 1000; omega⟩
            · obtain ⟨p, hp, h1, h2, h3⟩ := partMsgs_mem _ _ _ _ _ _ hm
              exact ⟨by rw [h3]; exact hseat.lo, by rw [h3]; exact hseat.hi, by rw [h2]; exact hseat.page, by rw [h1]; exact partsL_each _ _ (Nat.le_refl _) p hp⟩
          · have := partsL_length letter.size letter (Nat.le_refl _)
            rw [List.length_cons, partMsgs_length]
            omega
end Go.Proofs.Ytkoopagjjmdodaa
