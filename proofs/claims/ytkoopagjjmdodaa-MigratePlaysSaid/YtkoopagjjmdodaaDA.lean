/-
  The events of the laws of layer 54: what an event does, and what stays true behind it.
  The laws of layer 54: the program's three machines and the reference's three machines side by side.
  The reference's part of an event of MigratePlays, plainly; the events as they come in.
-/
import Derived.Test.YtkoopagjjmdodaaWlda
import Derived.Test.YtkoopagjjmdodaaText
import Derived.Test.YtkoopagjjmdodaaRA
import Derived.Test.YtkoopagjjmdodaaRC
import Derived.Test.YtkoopagjjmdodaaCopy
import Derived.Test.YtkoopagjjmdodaaOpenc
namespace Go.Proofs.Ytkoopagjjmdodaa
open Go.RowKit
set_option linter.unusedVariables false
set_option linter.unusedSimpArgs false

/-- No message and no seat names a machine below nought. -/
structure PeerOk (h : Host) : Prop where
  seats : ∀ s ∈ h.seats, 0 ≤ s.peer
  outs : ∀ m ∈ h.out, 0 ≤ m.dst
section
variable {h : Host} {m : Msg}
theorem PeerOk.get (H : PeerOk h) (j : Nat) {d : Seat} (hd : 0 ≤ d.peer) : 0 ≤ (h.seats.getD j d).peer := by
  rw [List.getD_eq_getElem?_getD]
  cases hx : h.seats[j]? with
  | none => exact hd
  | some x => exact H.seats x (List.mem_of_getElem? hx)
theorem PeerOk.set (H : PeerOk h) (j : Nat) {y : Seat} (hy : 0 ≤ y.peer) : PeerOk { h with seats := h.seats.set j y } :=
  ⟨fun s hs => by
    rcases List.mem_or_eq_of_mem_set hs with x | x
    · exact H.seats s x
    · rw [x]; exact hy, H.outs⟩
theorem PeerOk.push (H : PeerOk h) {y : Seat} (hy : 0 ≤ y.peer) : PeerOk { h with seats := h.seats ++ [y] } :=
  ⟨fun s hs => by
    rcases List.mem_append.1 hs with x | x
    · exact H.seats s x
    · rw [List.mem_singleton.1 x]; exact hy, H.outs⟩
theorem PeerOk.say (H : PeerOk h) {ms : List Msg} (hm : ∀ x ∈ ms, 0 ≤ x.dst) : PeerOk { h with out := h.out ++ ms } :=
  ⟨H.seats, fun x hx => by
    rcases List.mem_append.1 hx with y | y
    · exact H.outs x y
    · exact hm x y⟩
theorem PeerOk.say1 (H : PeerOk h) {x : Msg} (hx : 0 ≤ x.dst) : PeerOk { h with out := h.out ++ [x] } := H.say fun y hy => by rw [List.mem_singleton.1 hy]; exact hx
theorem formed_frm (hf : formedB m = true) : 0 ≤ m.frm := by
  unfold formedB Msg.headB at hf
  by_cases h : m.frm < 0
  · rw [decide_eq_true h] at hf
    simp at hf
  · omega
theorem PeerOk.start (H : PeerOk h) (page : ByteArray) : PeerOk (startM h page).2 := by
  unfold startM
  split
  · exact H
  split
  · exact H
  exact H.push (Int.le_refl _)
theorem PeerOk.withdraw (H : PeerOk h) (page : ByteArray) : PeerOk (withdrawM h page).2 := by
  unfold withdrawM
  cases findS page h.seats 0 with
  | none => exact H
  | some j =>
    have hg := H.get j (d := newSeat page) (Int.le_refl _)
    simp only
    split
    · exact H
    exact (H.set j (y := { h.seats.getD j (newSeat page) with state := 3 }) hg).say1 hg
theorem partMsgs_dst (id : Int) (s : Seat) (n : Nat) : ∀ (l : List ByteArray) (k : Nat) (m : Msg), m ∈ partMsgs id s n l k → m.dst = s.peer
  | [], _, m, hm => by cases hm
  | u :: l, k, m, hm => by
    rcases List.mem_cons.1 hm with x | x
    · rw [x]
    · exact partMsgs_dst id s n l (k + 1) m x
theorem PeerOk.hand (H : PeerOk h) (page letter : ByteArray) (dst : Int) : PeerOk (handM h page letter dst).2 := by
  unfold handM
  cases findS page h.seats 0 with
  | none => exact H
  | some j =>
    simp only
    split
    · exact H
    split
    · exact H
    split
    · exact H
    rename_i hd _
    have hd0 : 0 ≤ dst := by omega
    refine (H.set j (y := { h.seats.getD j (newSeat page) with state := 2, peer := dst, letter := letter, epoch := (h.seats.getD j (newSeat page)).epoch + 1 }) hd0).say fun x hx => ?_
    rcases List.mem_cons.1 hx with y | y
    · rw [y]; exact hd0
    · rw [partMsgs_dst _ _ _ _ _ _ y]; exact hd0
theorem tickS_dst {s : Seat} (id : Int) (hs : 0 ≤ s.peer) : ∀ m ∈ tickS id s, 0 ≤ m.dst := by
  intro m hm
  unfold tickS at hm
  split at hm
  · rw [List.mem_singleton.1 hm]; exact hs
  split at hm
  · rw [List.mem_singleton.1 hm]; exact hs
  split at hm
  · obtain ⟨k, -, rfl⟩ := List.mem_map.1 hm
    exact hs
  · cases hm
theorem PeerOk.tick (H : PeerOk h) : PeerOk (tickM h) := H.say fun m hm => by
  obtain ⟨s, hs, hm⟩ := List.mem_flatMap.1 hm
  exact tickS_dst h.id (H.seats s hs) m hm
theorem PeerOk.part (H : PeerOk h) (hm : 0 ≤ m.frm) (j : Nat) : PeerOk (partM h j m) := by
  unfold partM
  have hg := H.get j (d := blankSeat m.page) (Int.le_refl _)
  split
  · split
    · exact H.set j (y := gotS (h.seats.getD j (blankSeat m.page)) m) hg
    · exact (H.set j (y := { resetS (gotS (h.seats.getD j (blankSeat m.page)) m) 1 m.epoch with letter := joinL (gotS (h.seats.getD j (blankSeat m.page)) m).parts }) (Int.le_refl _)).say1 hm
  · exact H
theorem PeerOk.accept (H : PeerOk h) (hm : 0 ≤ m.frm) : PeerOk (acceptM h m) := by
  unfold acceptM
  cases findS m.page h.seats 0 with
  | none => exact (H.push (y := recvS (blankSeat m.page) m) hm).part hm _
  | some j =>
    simp only
    split
    · exact (H.set j (y := recvS (h.seats.getD j (blankSeat m.page)) m) hm).part hm _
    · exact H.part hm _
theorem PeerOk.cancel (H : PeerOk h) (hm : 0 ≤ m.frm) : PeerOk (cancelM h m) := by
  unfold cancelM
  cases findS m.page h.seats 0 with
  | none => exact (H.push (y := { blankSeat m.page with refuses := [m.epoch] }) (Int.le_refl _)).say1 hm
  | some j =>
    simp only
    split
    · refine (H.set j (y := refuseS (h.seats.getD j (blankSeat m.page)) m.epoch) ?_).say1 hm
      unfold refuseS
      split
      · exact Int.le_refl _
      · exact H.get j (Int.le_refl _)
    · exact H
theorem PeerOk.need (H : PeerOk h) : PeerOk (needM h m) := by
  unfold needM
  cases findS m.page h.seats 0 with
  | none => exact H
  | some j =>
    simp only
    split
    · exact H.say1 (H.get j (Int.le_refl _))
    · exact H
theorem PeerOk.settled (H : PeerOk h) : PeerOk (settledM h m) := by
  unfold settledM
  cases findS m.page h.seats 0 with
  | none => exact H
  | some j =>
    refine H.set j ?_
    unfold settleM
    split
    · split <;> exact Int.le_refl _
    · exact H.get j (Int.le_refl _)
theorem PeerOk.receive (H : PeerOk h) : PeerOk (receiveM h m) := by
  unfold receiveM
  by_cases h1 : formedB m = false ∨ m.dst ≠ h.id
  · rw [if_pos h1]; exact H
  · rw [if_neg h1]
    have hf : formedB m = true := by
      cases hx : formedB m with
      | true => rfl
      | false => exact absurd (.inl hx) h1
    have hm := formed_frm hf
    split
    · split
      · exact H.say1 hm
      · split
        · exact H.cancel hm
        · exact H.accept hm
    · split
      · exact H.need
      · exact H.settled
end

/-- An event. -/
structure EvM where
  kind : Nat
  at_ : Nat
  to_ : Nat
  page : Nat
  size : Nat
structure EvM.Ok (o : EvM) : Prop where
  k : o.kind < 256
  a : o.at_ < 256
  t : o.to_ < 256
  p : o.page < 256
  s : o.size < 65536
def EvM.cells (o : EvM) : List Value := [.int .u8 o.kind, .int .u8 o.at_, .int .u8 o.to_, .int .u8 o.page, .int .u16 o.size]
def evDst (o : EvM) : Int := (o.to_ : Int) % 4 - 1 + (o.at_ : Int) % 2
/-- A call of an event: the machine's answer, and the machine behind it. -/
def callM (h : Host) (o : EvM) (n : Nat) : Int × Host :=
  if o.kind % 7 = 0 then handM h (nameB o.page) (textB (o.size % 3500) n) (evDst o)
  else if o.kind % 7 = 1 then withdrawM h (nameB o.page)
  else if o.kind % 7 = 2 then (0, tickM h)
  else startM h (nameB o.page)
def cutW (d : Wd) (j : Nat) : Wd := { d with way := d.way.take j ++ d.way.drop (j + 1) }
/-- An event. -/
def doM (d : Wd) (o : EvM) (n : Nat) : Int × Wd :=
  if o.kind % 7 < 3 ∨ o.kind % 7 = 6 then ((callM (d.host (o.at_ % 3)) o n).1, collectM (d.put (o.at_ % 3) (callM (d.host (o.at_ % 3)) o n).2))
  else match d.way[o.at_ % d.way.length]? with
  | none => (0, d)
  | some m =>
    if o.kind % 7 = 5 then (0, { d with way := d.way ++ [m] })
    else if o.kind % 7 = 3 then (0, collectM (recvW (cutW d (o.at_ % d.way.length)) m))
    else (0, collectM (cutW d (o.at_ % d.way.length)))

/-- What stays true of three machines. -/
structure WdI (n k o : Nat) (d : Wd) : Prop where
  bd : WdB n k o d
  st : ∀ i, StOk (d.host i)
  pe : ∀ i, PeerOk (d.host i)
  dst : ∀ m ∈ d.way, 0 ≤ m.dst
theorem nameB_size (p : Nat) : (nameB p).size ≤ 200 := by unfold nameB; split <;> decide
theorem host_put_any (d : Wd) (i j : Nat) (h : Host) : (d.put i h).host j = h ∨ (d.put i h).host j = d.host j := by
  match i, j with
  | 0, 0 => exact .inl rfl
  | 0, 1 => exact .inr rfl
  | 0, j + 2 => exact .inr rfl
  | 1, 0 => exact .inr rfl
  | 1, 1 => exact .inl rfl
  | 1, j + 2 => exact .inr rfl
  | i + 2, 0 => exact .inr rfl
  | i + 2, 1 => exact .inr rfl
  | i + 2, j + 2 => exact .inl rfl
theorem put_way (d : Wd) (i : Nat) (h : Host) : (d.put i h).way = d.way := by
  match i with
  | 0 => rfl
  | 1 => rfl
  | i + 2 => rfl
theorem put_n (d : Wd) (i : Nat) (h : Host) : (d.put i h).n = d.n := by
  match i with
  | 0 => rfl
  | 1 => rfl
  | i + 2 => rfl
section
variable {n k o : Nat} {d : Wd}
theorem WdI.put (H : WdI n k o d) (i : Nat) {h : Host} {n' o' : Nat} (hh : HostIn n' o' h) (hs : StOk h) (hp : PeerOk h) (hn : n ≤ n') (ho : o ≤ o') : WdI n' k o' (d.put i h) := by
  refine ⟨H.bd.put i hh hn ho, fun j => ?_, fun j => ?_, fun m hm => H.dst m (by rwa [put_way] at hm)⟩
  · rcases host_put_any d i j h with e | e <;> rw [e]
    · exact hs
    · exact H.st j
  · rcases host_put_any d i j h with e | e <;> rw [e]
    · exact hp
    · exact H.pe j
theorem stOk_out {h : Host} (H : StOk h) : StOk { h with out := [] } := H
theorem peerOk_out {h : Host} (H : PeerOk h) : PeerOk { h with out := [] } := ⟨H.seats, fun _ hm => by cases hm⟩
theorem WdI.collect (H : WdI n k o d) : WdI n (k + 3 * o) 0 (collectM d) := by
  refine ⟨H.bd.collect, fun i => ?_, fun i => ?_, fun m hm => ?_⟩
  · rw [collect_eq]
    match i with
    | 0 => exact stOk_out (H.st 0)
    | 1 => exact stOk_out (H.st 1)
    | i + 2 => exact stOk_out (H.st 2)
  · rw [collect_eq]
    match i with
    | 0 => exact peerOk_out (H.pe 0)
    | 1 => exact peerOk_out (H.pe 1)
    | i + 2 => exact peerOk_out (H.pe 2)
  · rw [collect_eq] at hm
    simp only [List.mem_append] at hm
    rcases hm with ((hm | hm) | hm) | hm
    · exact H.dst m hm
    · exact (H.pe 0).outs m hm
    · exact (H.pe 1).outs m hm
    · exact (H.pe 2).outs m hm
theorem WdI.mono (H : WdI n k o d) {n' k' o' : Nat} (hn : n ≤ n') (hk : k ≤ k') (ho : o ≤ o') : WdI n' k' o' d := ⟨H.bd.mono hn hk ho, H.st, H.pe, H.dst⟩
theorem WdI.way (H : WdI n k o d) {l : List Msg} {k' : Nat} (hl : l.length ≤ k') (hm : ∀ m ∈ l, m ∈ d.way) : WdI n k' o { d with way := l } :=
  ⟨⟨H.bd.h0, H.bd.h1, H.bd.h2, hl, fun m x => H.bd.ways m (hm m x)⟩, fun i => H.st i, fun i => H.pe i, fun m x => H.dst m (hm m x)⟩
theorem mem_cutL {l : List Msg} {j : Nat} {m : Msg} (h : m ∈ l.take j ++ l.drop (j + 1)) : m ∈ l := by
  rcases List.mem_append.1 h with x | x
  · exact List.mem_of_mem_take x
  · exact List.mem_of_mem_drop x
theorem WdI.cut (H : WdI n k o d) (j : Nat) : WdI n k o (cutW d j) := by
  refine H.way ?_ fun m hm => mem_cutL hm
  have := H.bd.len
  rw [List.length_append, List.length_take, List.length_drop]
  omega
theorem WdI.recv (H : WdI n k o d) {m : Msg} (hm : MsgIn n m) : WdI (n + 1) k (o + 1) (recvW d m) := by
  unfold recvW
  split
  · exact H.put _ (receive_in (H.bd.host _) hm) ((H.st _).receive m) (H.pe _).receive (Nat.le_succ _) (Nat.le_succ _)
  · exact H.mono (Nat.le_succ _) (Nat.le_refl _) (Nat.le_succ _)
theorem callM_in {h : Host} {ev : EvM} (H : HostIn n 0 h) (hn : 1 ≤ n) (hn2 : n ≤ 1000) (j : Nat) : HostIn (n + 1) 20000 (callM h ev j).2 := by
  unfold callM
  split
  · exact (hand_in (nameB_size _) hn (by rw [textB_size]; omega) H).mono (Nat.le_refl _) (by omega)
  split
  · exact (withdraw_in (nameB_size _) hn H).mono (Nat.le_succ _) (by omega)
  split
  · exact (tick_in H).mono (Nat.le_succ _) (by omega)
  · exact (start_in H).mono (Nat.le_refl _) (by omega)
theorem callM_st {h : Host} {ev : EvM} (H : StOk h) (j : Nat) : StOk (callM h ev j).2 := by
  unfold callM
  split
  · exact H.hand _ _ _
  split
  · exact H.withdraw _
  split
  · exact H.tick
  · exact H.start _
theorem callM_pe {h : Host} {ev : EvM} (H : PeerOk h) (j : Nat) : PeerOk (callM h ev j).2 := by
  unfold callM
  split
  · exact H.hand _ _ _
  split
  · exact H.withdraw _
  split
  · exact H.tick
  · exact H.start _
theorem WdI.call (H : WdI n k 0 d) (hn : 1 ≤ n) (hn2 : n ≤ 1000) (i : Nat) (ev : EvM) (j : Nat) : WdI (n + 1) k 20000 (d.put i (callM (d.host i) ev j).2) :=
  H.put i (callM_in (H.bd.host i) hn hn2 j) (callM_st (H.st i) j) (callM_pe (H.pe i) j) (Nat.le_succ _) (Nat.zero_le _)
theorem WdI.do_ (H : WdI n k 0 d) (hn : 1 ≤ n) (hn2 : n ≤ 1000) (ev : EvM) (j : Nat) : WdI (n + 1) (k + 60000) 0 (doM d ev j).2 := by
  unfold doM
  split
  · exact (H.call hn hn2 _ ev j).collect
  · cases hw : d.way[ev.at_ % d.way.length]? with
    | none => exact H.mono (Nat.le_succ _) (by omega) (Nat.le_refl _)
    | some m =>
      have hm : m ∈ d.way := List.mem_of_getElem? hw
      simp only
      split
      · refine (H.way (l := d.way ++ [m]) (k' := k + 1) (by have := H.bd.len; rw [List.length_append]; exact Nat.add_le_add_right this 1) (fun x hx => ?_)).mono (Nat.le_succ _) (by omega) (Nat.le_refl _)
        rcases List.mem_append.1 hx with y | y
        · exact y
        · rw [List.mem_singleton.1 y]; exact hm
      split
      · exact (((H.cut _).recv (H.bd.ways m hm)).collect).mono (Nat.le_refl _) (by omega) (Nat.le_refl _)
      · exact ((H.cut _).collect).mono (Nat.le_succ _) (by omega) (Nat.le_refl _)
end
end Go.Proofs.Ytkoopagjjmdodaa
namespace Go.Proofs.Ytkoopagjjmdodaa
open Go.RowKit
set_option linter.unusedVariables false
set_option linter.unusedSimpArgs false

/-- Three machines, one behind the other (of a world's parts the machines alone). -/
def triOwn (w : World) (cs : List Value) (s : Wd) (F : List Nat) : Prop :=
  ∃ a0 a1 a2 b0 b1 b2 c0 c1 c2, ∃ F0 F1 F2, cs = [a0, a1, a2, b0, b1, b2, c0, c1, c2] ∧ hostR.own w [a0, a1, a2] s.h0 F0 ∧ hostR.own w [b0, b1, b2] s.h1 F1 ∧ hostR.own w [c0, c1, c2] s.h2 F2 ∧ F = F0 ++ (F1 ++ F2)
def triR : Rep Wd where
  n := 9
  own := triOwn
  len := by rintro w cs s F ⟨a0, a1, a2, b0, b1, b2, c0, c1, c2, F0, F1, F2, rfl, -⟩; rfl
  lt := by
    rintro w cs s F ⟨a0, a1, a2, b0, b1, b2, c0, c1, c2, F0, F1, F2, rfl, h0, h1, h2, rfl⟩ k hk
    simp only [List.mem_append] at hk
    rcases hk with hk | hk | hk
    · exact hostR.lt h0 k hk
    · exact hostR.lt h1 k hk
    · exact hostR.lt h2 k hk
  keep := by
    rintro w w2 cs s F ⟨a0, a1, a2, b0, b1, b2, c0, c1, c2, F0, F1, F2, rfl, h0, h1, h2, rfl⟩ hk
    exact ⟨_, _, _, _, _, _, _, _, _, _, _, _, rfl, hostR.keep h0 (fun k hm => hk k (by simp [hm])), hostR.keep h1 (fun k hm => hk k (by simp [hm])), hostR.keep h2 (fun k hm => hk k (by simp [hm])), rfl⟩
theorem triR_h0 : FieldOf triR hostR 0 (·.h0) (fun s y => { s with h0 := y }) := by
  refine ⟨by show 0 + 3 ≤ 9; omega, ?_⟩
  rintro w cs s F ⟨a0, a1, a2, b0, b1, b2, c0, c1, c2, F0, F1, F2, rfl, h0, h1, h2, rfl⟩
  refine ⟨[], F0, F1 ++ F2, by simp, h0, fun w2 ys y G hk hy => ?_⟩
  obtain ⟨x, y', z, rfl⟩ := len3 (hostR.len hy)
  exact ⟨_, _, _, _, _, _, _, _, _, G, F1, F2, rfl, hy, hostR.keep h1 (fun k hm => hk k (by simp [hm])), hostR.keep h2 (fun k hm => hk k (by simp [hm])), by simp⟩
theorem triR_h1 : FieldOf triR hostR 3 (·.h1) (fun s y => { s with h1 := y }) := by
  refine ⟨by show 3 + 3 ≤ 9; omega, ?_⟩
  rintro w cs s F ⟨a0, a1, a2, b0, b1, b2, c0, c1, c2, F0, F1, F2, rfl, h0, h1, h2, rfl⟩
  refine ⟨F0, F1, F2, by simp, h1, fun w2 ys y G hk hy => ?_⟩
  obtain ⟨x, y', z, rfl⟩ := len3 (hostR.len hy)
  exact ⟨_, _, _, _, _, _, _, _, _, F0, G, F2, rfl, hostR.keep h0 (fun k hm => hk k (by simp [hm])), hy, hostR.keep h2 (fun k hm => hk k (by simp [hm])), by simp⟩
theorem triR_h2 : FieldOf triR hostR 6 (·.h2) (fun s y => { s with h2 := y }) := by
  refine ⟨by show 6 + 3 ≤ 9; omega, ?_⟩
  rintro w cs s F ⟨a0, a1, a2, b0, b1, b2, c0, c1, c2, F0, F1, F2, rfl, h0, h1, h2, rfl⟩
  refine ⟨F0 ++ F1, F2, [], by simp, h2, fun w2 ys y G hk hy => ?_⟩
  obtain ⟨x, y', z, rfl⟩ := len3 (hostR.len hy)
  exact ⟨_, _, _, _, _, _, _, _, _, F0, F1, G, rfl, hostR.keep h0 (fun k hm => hk k (by simp [hm])), hostR.keep h1 (fun k hm => hk k (by simp [hm])), hy, by simp⟩
theorem triHost {w : World} {b : Nat} {r : Wd} {F : List Nat} (H : Here triR w b 0 r F) (k : Nat) (hk : k < 3) : ∃ G, Here hostR w b (k * 3) (r.host k) G ∧ (∀ x ∈ G, x ∈ F) ∧ ∀ w' h', HostPost w b (k * 3) h' G w' → ∃ F', Here triR w' b 0 (r.put k h') F' ∧ Step w w' b 0 9 F F' := by
  match k, hk with
  | 0, _ =>
    obtain ⟨G, h1, h2, h3⟩ := H.field triR_h0 (by show 0 < 9; decide)
    exact ⟨G, h1, h2, fun w' h' ⟨F', q1, q2⟩ => h3 _ _ _ q1 q2⟩
  | 1, _ =>
    obtain ⟨G, h1, h2, h3⟩ := H.field triR_h1 (by show 0 < 9; decide)
    exact ⟨G, h1, h2, fun w' h' ⟨F', q1, q2⟩ => h3 _ _ _ q1 q2⟩
  | 2, _ =>
    obtain ⟨G, h1, h2, h3⟩ := H.field triR_h2 (by show 0 < 9; decide)
    exact ⟨G, h1, h2, fun w' h' ⟨F', q1, q2⟩ => h3 _ _ _ q1 q2⟩
/-- Both sides: the program's world d at bw; the reference's machines r at br, with its messages r.way in the slice v; and other blocks B, which none of these has. -/
structure Two (w0 w : World) (bw br : Nat) (d r : Wd) (v : Value) (B : List (Nat × Obj)) : Prop where
  ex : ∃ F G, Own wdR w0 w bw 0 d F ∧ Own triR w0 w br 0 r G ∧ bw ≠ br ∧ bw ∉ G ∧ br ∉ F ∧ (∀ k ∈ F, k ∉ G) ∧
    RowAt w 39 8 v r.way.length (r.way.flatMap Msg.cells) ∧ (∀ k, v.ownBlock = some k → k ≠ bw ∧ k ≠ br ∧ k ∉ F ∧ k ∉ G ∧ w0.heap.size ≤ k) ∧
    ∀ x ∈ B, w.heap[x.1]? = some x.2 ∧ x.1 ≠ bw ∧ x.1 ≠ br ∧ x.1 ∉ F ∧ x.1 ∉ G ∧ ¬ v.ownBlock = some x.1
section
variable {w0 w w' : World} {bw br : Nat} {d r : Wd} {v : Value} {B : List (Nat × Obj)}
theorem Two.chg (H : Two w0 w bw br d r v B) : Chg (fun _ => False) w0 w := by
  obtain ⟨F, G, h1, -⟩ := H.ex
  exact h1.chg
theorem Two.lo (H : Two w0 w bw br d r v B) : bw < w.heap.size ∧ br < w.heap.size := by
  obtain ⟨F, G, h1, h2, -⟩ := H.ex
  exact ⟨h1.here.lt.1, h2.here.lt.1⟩
theorem Two.still (H : Two w0 w bw br d r v B) (hc : Chg (fun _ => False) w w') : Two w0 w' bw br d r v B := by
  obtain ⟨F, G, h1, h2, h3, h4, h5, h6, h7, h8, h9⟩ := H.ex
  exact ⟨F, G, h1.still hc, h2.still hc, h3, h4, h5, h6, h7.chg hc (fun _ _ x => x), h8, fun x hx => ⟨hc.keep (h9 x hx).1 (fun y => y), (h9 x hx).2⟩⟩
theorem Two.drew (H : Two w0 w bw br d r v B) : Two w0 w.drew bw br d r v B := H.still ((Chg.refl _ w).drewR)
/-- A block that is made. -/
theorem Two.alloc (H : Two w0 w bw br d r v B) (X : Obj) : Two w0 (w.alloc X) bw br d r v ((w.heap.size, X) :: B) := by
  have H2 := H.still (Chg.alloc (fun _ => False) w X)
  have hlo := H.lo
  obtain ⟨F, G, h1, h2, h3, h4, h5, h6, h7, h8, h9⟩ := H.ex
  have hc := Chg.alloc (fun _ => False) w X
  refine ⟨F, G, h1.still hc, h2.still hc, h3, h4, h5, h6, h7.chg hc (fun _ _ x => x), h8, fun x hx => ?_⟩
  rcases List.mem_cons.1 hx with rfl | hx
  · refine ⟨alloc_block w X, ?_, ?_, ?_, ?_, ?_⟩
    · show w.heap.size ≠ bw
      omega
    · show w.heap.size ≠ br
      omega
    · intro hf; have := h1.here.lt.2 _ hf; exact absurd this (Nat.lt_irrefl _)
    · intro hf; have := h2.here.lt.2 _ hf; exact absurd this (Nat.lt_irrefl _)
    · intro hf; have := h7.lt _ hf; exact absurd this (Nat.lt_irrefl _)
  · exact ⟨hc.keep (h9 x hx).1 (fun y => y), (h9 x hx).2⟩
theorem Two.block (H : Two w0 w bw br d r v B) {x : Nat × Obj} (hx : x ∈ B) : w.heap[x.1]? = some x.2 := by
  obtain ⟨F, G, h1, h2, h3, h4, h5, h6, h7, h8, h9⟩ := H.ex
  exact (h9 x hx).1
theorem Two.less (H : Two w0 w bw br d r v B) {B' : List (Nat × Obj)} (hB : ∀ x ∈ B', x ∈ B) : Two w0 w bw br d r v B' := by
  obtain ⟨F, G, h1, h2, h3, h4, h5, h6, h7, h8, h9⟩ := H.ex
  exact ⟨F, G, h1, h2, h3, h4, h5, h6, h7, h8, fun x hx => h9 x (hB x hx)⟩
theorem Two.row (H : Two w0 w bw br d r v B) : RowAt w 39 8 v r.way.length (r.way.flatMap Msg.cells) := by
  obtain ⟨F, G, h1, h2, h3, h4, h5, h6, h7, h8, h9⟩ := H.ex
  exact h7
/-- The slice of the messages has none of the other blocks. -/
theorem Two.rowNot (H : Two w0 w bw br d r v B) {x : Nat × Obj} (hx : x ∈ B) : ¬ v.ownBlock = some x.1 := by
  obtain ⟨F, G, h1, h2, h3, h4, h5, h6, h7, h8, h9⟩ := H.ex
  exact (h9 x hx).2.2.2.2.2
/-- The program's world changes. -/
theorem Two.prog (H : Two w0 w bw br d r v B) : ∃ F, Here wdR w bw 0 d F ∧ ∀ d' w', WdPost w bw d' F w' → Two w0 w' bw br d' r v B := by
  obtain ⟨F, G, h1, h2, h3, h4, h5, h6, h7, h8, h9⟩ := H.ex
  refine ⟨F, h1.here, fun d' w' ⟨F', hh, hs⟩ => ?_⟩
  have o1 := h1.step hh hs
  refine ⟨F', G, o1, ⟨h2.here.apart hs h3.symm h5 h4 (fun k hk hx => h6 k hx hk), o1.chg, h2.lo, h2.los⟩, h3, h4, fun hx => ?_, fun k hk hx => ?_, h7.chg hs.chg (fun k hk hx => ?_), fun k hk => ?_, fun x hx => ?_⟩
  · rcases hs.new br hx with y | y
    · exact h5 y
    · have := h2.here.lt.1; omega
  · rcases hs.new k hk with y | y
    · exact h6 k y hx
    · have := h2.here.lt.2 k hx; omega
  · obtain ⟨p1, p2, p3, p4, p5⟩ := h8 k hk
    exact hx.elim p1 p3
  · obtain ⟨p1, p2, p3, p4, p5⟩ := h8 k hk
    refine ⟨p1, p2, fun hx => ?_, p4, p5⟩
    rcases hs.new k hx with y | y
    · exact p3 y
    · have := h7.lt k hk; omega
  · obtain ⟨p0, p1, p2, p3, p4, p5⟩ := h9 x hx
    refine ⟨hs.chg.keep p0 (fun y => y.elim p1 p3), p1, p2, fun hf => ?_, p4, p5⟩
    rcases hs.new _ hf with y | y
    · exact p3 y
    · have := lt_of_block p0; omega
/-- A machine of the reference changes. -/
theorem Two.ref (H : Two w0 w bw br d r v B) (k : Nat) (hk : k < 3) : ∃ G, Here hostR w br (k * 3) (r.host k) G ∧ (∀ j, v.ownBlock = some j → j ≠ br ∧ j ∉ G) ∧ ∀ h' w', HostPost w br (k * 3) h' G w' → Two w0 w' bw br d (r.put k h') v B := by
  obtain ⟨F, G, h1, h2, h3, h4, h5, h6, h7, h8, h9⟩ := H.ex
  obtain ⟨Gk, k1, k2, k3⟩ := triHost h2.here k hk
  refine ⟨Gk, k1, fun j hj => ⟨(h8 j hj).2.1, fun hx => (h8 j hj).2.2.2.1 (k2 j hx)⟩, fun h' w' hp => ?_⟩
  obtain ⟨G', hh, hs⟩ := k3 w' h' hp
  have o2 := h2.step hh hs
  refine ⟨F, G', ⟨h1.here.apart hs h3 h4 h5 (fun k hk hx => h6 k hk hx), o2.chg, h1.lo, h1.los⟩, o2, h3, fun hx => ?_, h5, fun k hk hx => ?_, ?_, fun k hk => ?_, fun x hx => ?_⟩
  · rcases hs.new bw hx with y | y
    · exact h4 y
    · have := h1.here.lt.1; omega
  · rcases hs.new k hx with y | y
    · exact h6 k hk y
    · have := h1.here.lt.2 k hk; omega
  · have hw : (r.put k h').way = r.way := by
      match k with
      | 0 => rfl
      | 1 => rfl
      | k + 2 => rfl
    rw [hw]
    exact h7.chg hs.chg fun k hk hx => by
      obtain ⟨p1, p2, p3, p4, p5⟩ := h8 k hk
      exact hx.elim p2 p4
  · obtain ⟨p1, p2, p3, p4, p5⟩ := h8 k hk
    refine ⟨p1, p2, p3, fun hx => ?_, p5⟩
    rcases hs.new k hx with y | y
    · exact p4 y
    · have := h7.lt k hk; omega
  · obtain ⟨p0, p1, p2, p3, p4, p5⟩ := h9 x hx
    refine ⟨hs.chg.keep p0 (fun y => y.elim p2 p4), p1, p2, p3, fun hf => ?_, p5⟩
    rcases hs.new _ hf with y | y
    · exact p4 y
    · have := lt_of_block p0; omega
/-- The messages are appended to, or laid anew. -/
theorem Two.way (H : Two w0 w bw br d r v B) {v' : Value} {l : List Msg} (hc : Chg (fun k => v.ownBlock = some k) w w') (hr : RowAt w' 39 8 v' l.length (l.flatMap Msg.cells)) (hn : ∀ k, v'.ownBlock = some k → v.ownBlock = some k ∨ w.heap.size ≤ k) : Two w0 w' bw br d { r with way := l } v' B := by
  obtain ⟨F, G, h1, h2, h3, h4, h5, h6, h7, h8, h9⟩ := H.ex
  have hF : ∀ k ∈ F, ¬ v.ownBlock = some k := fun k hk e => (h8 k e).2.2.1 hk
  have hG : ∀ k ∈ G, ¬ v.ownBlock = some k := fun k hk e => (h8 k e).2.2.2.1 hk
  have hch : Chg (fun _ => False) w0 w' := h1.chg.trans hc (fun _ _ x => x) (fun i hi x => by have := (h8 i x).2.2.2.2; omega)
  have hsz := h1.chg.size
  have h2x := h2.here.chg hc (fun e => (h8 br e).2.1 rfl) hG
  have h2' : Here triR w' br 0 { r with way := l } G := ⟨h2x.box, h2x.nb, h2x.nd⟩
  refine ⟨F, G, ⟨h1.here.chg hc (fun e => (h8 bw e).1 rfl) hF, hch, h1.lo, h1.los⟩, ⟨h2', hch, h2.lo, h2.los⟩, h3, h4, h5, h6, hr, fun k hk => ?_, fun x hx => ?_⟩
  · rcases hn k hk with y | y
    · exact h8 k y
    · refine ⟨by have := h1.here.lt.1; omega, by have := h2.here.lt.1; omega, fun hx => by have := h1.here.lt.2 k hx; omega, fun hx => by have := h2.here.lt.2 k hx; omega, by omega⟩
  · obtain ⟨p0, p1, p2, p3, p4, p5⟩ := h9 x hx
    refine ⟨hc.keep p0 p5, p1, p2, p3, p4, fun hf => ?_⟩
    rcases hn _ hf with y | y
    · exact p5 y
    · have := lt_of_block p0; omega
theorem Two.rest (H : Two w0 w bw br d r v B) (i : Int) : Two w0 w bw br d { r with n := i } v B := by
  obtain ⟨F, G, h1, h2, h3, h4, h5, h6, h7, h8, h9⟩ := H.ex
  have h2' : Here triR w br 0 { r with n := i } G := ⟨h2.here.box, h2.here.nb, h2.here.nd⟩
  exact ⟨F, G, h1, ⟨h2', h2.chg, h2.lo, h2.los⟩, h3, h4, h5, h6, h7, h8, h9⟩
end
end Go.Proofs.Ytkoopagjjmdodaa
namespace Go.Proofs.Ytkoopagjjmdodaa
open Go.ChangeShapes Go.WideShapes Go.ChangeAt Go.RowKit
set_option linter.unusedVariables false
set_option linter.unusedSimpArgs false

/-- What happens before the messages are collected. -/
def preM (d : Wd) (o : EvM) (n : Nat) : Int × Wd :=
  if o.kind % 7 < 3 ∨ o.kind % 7 = 6 then ((callM (d.host (o.at_ % 3)) o n).1, d.put (o.at_ % 3) (callM (d.host (o.at_ % 3)) o n).2)
  else match d.way[o.at_ % d.way.length]? with
  | none => (0, d)
  | some m =>
    if o.kind % 7 = 5 then (0, { d with way := d.way ++ [m] })
    else if o.kind % 7 = 3 then (0, recvW (cutW d (o.at_ % d.way.length)) m)
    else (0, cutW d (o.at_ % d.way.length))
theorem out_nil {n : Nat} {h : Host} (H : HostIn n 0 h) : h.out = [] := List.length_eq_zero_iff.1 (Nat.le_zero.1 H.out)
theorem collect_id {n k : Nat} {d : Wd} (H : WdB n k 0 d) : collectM d = d := by
  rw [collect_eq, out_nil H.h0, out_nil H.h1, out_nil H.h2]
  obtain ⟨⟨a0, b0, c0⟩, ⟨a1, b1, c1⟩, ⟨a2, b2, c2⟩, wy, nn⟩ := d
  have e0 : c0 = [] := out_nil H.h0
  have e1 : c1 = [] := out_nil H.h1
  have e2 : c2 = [] := out_nil H.h2
  subst e0 e1 e2
  simp
theorem collect_dup {n k : Nat} {d : Wd} (H : WdB n k 0 d) (l : List Msg) : collectM { d with way := l } = { d with way := l } := by
  rw [collect_eq]
  obtain ⟨⟨a0, b0, c0⟩, ⟨a1, b1, c1⟩, ⟨a2, b2, c2⟩, wy, nn⟩ := d
  have e0 : c0 = [] := out_nil H.h0
  have e1 : c1 = [] := out_nil H.h1
  have e2 : c2 = [] := out_nil H.h2
  subst e0 e1 e2
  simp
theorem preM_do {n k : Nat} {d : Wd} (H : WdI n k 0 d) (o : EvM) (j : Nat) : doM d o j = ((preM d o j).1, collectM (preM d o j).2) := by
  unfold doM preM
  split
  · rfl
  · cases hw : d.way[o.at_ % d.way.length]? with
    | none => simp only; rw [collect_id H.bd]
    | some m =>
      simp only
      split
      · simp only; rw [collect_dup H.bd]
      split <;> rfl
theorem WdI.pre {n k : Nat} {d : Wd} (H : WdI n k 0 d) (hn : 1 ≤ n) (hn2 : n ≤ 1000) (ev : EvM) (j : Nat) : WdI (n + 1) (k + 1) 20000 (preM d ev j).2 := by
  unfold preM
  split
  · exact (H.call hn hn2 _ ev j).mono (Nat.le_refl _) (Nat.le_succ _) (Nat.le_refl _)
  · cases hw : d.way[ev.at_ % d.way.length]? with
    | none => exact H.mono (Nat.le_succ _) (Nat.le_succ _) (by omega)
    | some m =>
      have hm : m ∈ d.way := List.mem_of_getElem? hw
      simp only
      split
      · refine (H.way (l := d.way ++ [m]) (k' := k + 1) (by have := H.bd.len; rw [List.length_append]; exact Nat.add_le_add_right this 1) (fun x hx => ?_)).mono (Nat.le_succ _) (Nat.le_refl _) (by omega)
        rcases List.mem_append.1 hx with y | y
        · exact y
        · rw [List.mem_singleton.1 y]; exact hm
      split
      · exact ((H.cut _).recv (H.bd.ways m hm)).mono (Nat.le_refl _) (Nat.le_succ _) (by omega)
      · exact (H.cut _).mono (Nat.le_succ _) (Nat.le_succ _) (by omega)
theorem wd0_in : WdI 1 0 0 wd0 := by
  have h0 : ∀ (id : Int) (p : ByteArray), p.size ≤ 200 → HostIn 1 0 ⟨id, [newSeat p], []⟩ := fun id p hp => ⟨Nat.le_refl _, by simp, by show 1 ≤ 1; omega, fun s hs => by rw [List.mem_singleton.1 hs]; exact new_in hp (Nat.le_refl _)⟩
  refine ⟨⟨h0 0 _ (by decide), h0 1 _ (by decide), ⟨Nat.le_refl _, fun m hm => (by cases hm), by show 0 ≤ 1; omega, fun m hm => (by cases hm)⟩, Nat.le_refl _, fun m hm => (by cases hm)⟩, fun i => ?_, fun i => ?_, fun m hm => (by cases hm)⟩
  · have hs : ∀ (id : Int) (p : ByteArray), StOk ⟨id, [newSeat p], []⟩ := fun id p s hs h4 => by
      rw [List.mem_singleton.1 hs] at h4
      have : (1 : Int) = 4 := h4
      omega
    match i with
    | 0 => exact hs _ _
    | 1 => exact hs _ _
    | i + 2 => exact fun s hs => by cases hs
  · have hs : ∀ (id : Int) (p : ByteArray), PeerOk ⟨id, [newSeat p], []⟩ := fun id p => ⟨fun s hs => by rw [List.mem_singleton.1 hs]; exact Int.le_refl _, fun m hm => by cases hm⟩
    match i with
    | 0 => exact hs _ _
    | 1 => exact hs _ _
    | i + 2 => exact (show PeerOk ⟨2, [], []⟩ from ⟨fun s hs => (by cases hs), fun m hm => (by cases hm)⟩)
theorem list5 {x : List Value} {a b c d e : Value} (hl : x.length = 5) (h0 : x[0]? = some a) (h1 : x[1]? = some b) (h2 : x[2]? = some c) (h3 : x[3]? = some d) (h4 : x[4]? = some e) : x = [a, b, c, d, e] := by
  match x, hl with
  | [_, _, _, _, _], _ => simp_all

set_option maxRecDepth 100000 in
theorem open_evs {H : Type} {enc : TypeId × Value → H} {w : World} {base : Nat} {v : Value} {d : DataW H} {ps : List MemPlace} (hv : Value.okWide Try.prog w .any base 46 v) (h : DataW.Trod enc Try.prog w 0 (fun _ => true) true 46 v d ps) :
    ∃ x : Value × List EvM, v = x.1 ∧ ArgRows w x.1 5 (x.2.map EvM.cells) ∧ ∀ o ∈ x.2, o.Ok := by
  have h6 : Try.prog.cellsOf 53 = 5 := by kernel_rfl
  obtain ⟨xs, h1, h2⟩ := open_rows Try.underlying46 Try.underlying53 (by rw [h6]; decide) hv h
  rw [h6] at h1 h2
  have cu : Try.prog.cellsOf 5 = 1 := by kernel_rfl
  have cw : Try.prog.cellsOf 51 = 1 := by kernel_rfl
  have e1 : IntKind.u8.min = 0 := by decide
  have e2 : IntKind.u8.max = 255 := by decide
  have e3 : IntKind.u16.min = 0 := by decide
  have e4 : IntKind.u16.max = 65535 := by decide
  have one : ∀ x ∈ xs, ∃ o : EvM, x = o.cells ∧ o.Ok := by
    intro x hx
    obtain ⟨hl, hf⟩ := h2 x hx
    obtain ⟨n0, y0, k0⟩ := hf 0 _ rfl
    obtain ⟨n1, y1, k1⟩ := hf 1 _ rfl
    obtain ⟨n2, y2, k2⟩ := hf 2 _ rfl
    obtain ⟨n3, y3, k3⟩ := hf 3 _ rfl
    obtain ⟨n4, y4, k4⟩ := hf 4 _ rfl
    obtain ⟨a0, b0, r0⟩ := cell_int Try.underlying5 cu k0
    obtain ⟨a1, b1, r1⟩ := cell_int Try.underlying5 cu k1
    obtain ⟨a2, b2, r2⟩ := cell_int Try.underlying5 cu k2
    obtain ⟨a3, b3, r3⟩ := cell_int Try.underlying5 cu k3
    obtain ⟨a4, b4, r4⟩ := cell_int Try.underlying51 cw k4
    rw [e1, e2] at r0 r1 r2 r3
    rw [e3, e4] at r4
    refine ⟨⟨a0.toNat, a1.toNat, a2.toNat, a3.toNat, a4.toNat⟩, ?_, ⟨by show a0.toNat < 256; omega, by show a1.toNat < 256; omega, by show a2.toNat < 256; omega, by show a3.toNat < 256; omega, by show a4.toNat < 65536; omega⟩⟩
    unfold EvM.cells
    simp only [Int.toNat_of_nonneg r0.1, Int.toNat_of_nonneg r1.1, Int.toNat_of_nonneg r2.1, Int.toNat_of_nonneg r3.1, Int.toNat_of_nonneg r4.1]
    exact list5 hl b0 b1 b2 b3 b4
  have all : ∀ ys : List (List Value), (∀ x ∈ ys, ∃ o : EvM, x = o.cells ∧ o.Ok) → ∃ os : List EvM, ys = os.map EvM.cells ∧ ∀ o ∈ os, o.Ok := by
    intro ys
    induction ys with
    | nil => intro _; exact ⟨[], rfl, by simp⟩
    | cons y ys ih =>
      intro hy
      obtain ⟨o, rfl, ho⟩ := hy _ (List.mem_cons_self ..)
      obtain ⟨os, rfl, hos⟩ := ih (fun x hx => hy x (List.mem_cons_of_mem _ hx))
      refine ⟨o :: os, rfl, fun x hx => ?_⟩
      rcases List.mem_cons.1 hx with rfl | hx
      · exact ho
      · exact hos x hx
  obtain ⟨os, rfl, hos⟩ := all xs one
  exact ⟨(v, os), rfl, h1, hos⟩
end Go.Proofs.Ytkoopagjjmdodaa
