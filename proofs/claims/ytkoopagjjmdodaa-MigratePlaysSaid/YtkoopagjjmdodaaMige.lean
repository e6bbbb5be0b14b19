/-
  The operations of a machine of layer 54: New, Start, Send, Runs, Letter, Withdraw.
-/
import Derived.Test.YtkoopagjjmdodaaMigd
namespace Go.Proofs.Ytkoopagjjmdodaa
open Go.RowKit
set_option linter.unusedVariables false

/-- A machine after an operation. -/
def HostPost (w : World) (b o : Nat) (h' : Host) (F : List Nat) (w' : World) : Prop := ∃ F', Here hostR w' b o h' F' ∧ Step w w' b o 3 F F'
section
variable {w w' : World} {b o : Nat} {h : Host} {F : List Nat}
theorem hostCells (H : Here hostR w b o h F) : ∃ vs vo, w.cell? ⟨b, o, none⟩ = some (.int .i64 h.id) ∧ w.cell? ⟨b, o + 1, none⟩ = some vs ∧ w.cell? ⟨b, o + 2, none⟩ = some vo ∧ ∃ F1 F2, seatsR.own w [vs] h.seats F1 ∧ outR.own w [vo] h.out F2 ∧ F = F1 ++ F2 := by
  obtain ⟨cs, ⟨vs, vo, F1, F2, rfl, h1, h2, h3⟩, hc⟩ := H.cell
  exact ⟨vs, vo, hc 0 _ rfl, hc 1 _ rfl, hc 2 _ rfl, F1, F2, h1, h2, h3⟩
theorem hostStill (H : Here hostR w b o h F) (hc : Chg (fun _ => False) w w') : HostPost w b o h F w' := ⟨F, H.still hc, Step.ofChg hc⟩
theorem HostPost.pre {w0 : World} {h' : Host} (hc : Chg (fun _ => False) w0 w) (hp : HostPost w b o h' F w') : HostPost w0 b o h' F w' := by
  obtain ⟨F', h1, h2⟩ := hp
  exact ⟨F', h1, (Step.ofChg hc).trans h2⟩
theorem HostPost.post {w2 : World} {h' : Host} (hp : HostPost w b o h' F w') (hc : Chg (fun _ => False) w' w2) : HostPost w b o h' F w2 := by
  obtain ⟨F', h1, h2⟩ := hp
  exact ⟨F', h1.still hc, h2.trans (Step.ofChg hc)⟩
/-- What goes out, within the machine. -/
theorem hostOut (H : Here hostR w b o h F) : ∃ G, Here outR w b (o + 2) h.out G ∧ ∀ w' out', PutPost w b o out' G w' → HostPost w b o { h with out := out' } F w' ∧ ∀ u, w.cell? ⟨b, o + 1, none⟩ = some u → w'.cell? ⟨b, o + 1, none⟩ = some u := by
  obtain ⟨G, h1, h2, h3⟩ := H.field hostR_out (by show 0 < 3; decide)
  refine ⟨G, h1, fun w' out' ⟨G', p, q⟩ => ⟨h3 _ _ _ p q, fun u hu => ?_⟩⟩
  obtain ⟨c, T, hb⟩ := H.boxed
  exact q.cell hu h1.nb (fun _ => by omega) ⟨c, T, hb⟩
/-- A seat, within the machine. -/
theorem hostSeat {g off n cap i : Nat} (H : Here hostR w b o h F) (hvs : w.cell? ⟨b, o + 1, none⟩ = some (.slice (some ⟨g, off, none⟩) n cap)) (hi : i < h.seats.length) :
    ∃ G, Here seatR w g (off + i * 8) h.seats[i] G ∧ g ≠ b ∧ b ∉ G ∧ ∀ w' y G', Here seatR w' g (off + i * 8) y G' → Step w w' g (off + i * 8) 8 G G' → HostPost w b o { h with seats := h.seats.set i y } F w' ∧ w'.cell? ⟨b, o + 1, none⟩ = some (.slice (some ⟨g, off, none⟩) n cap) := by
  obtain ⟨G1, h1, h2, h3⟩ := H.field hostR_seats (by show 0 < 3; decide)
  obtain ⟨g', off', cap', q1, _, _, q4, q5, q6⟩ := h1.elem (by omega)
  rw [q1] at hvs
  simp only [Option.some.injEq, Value.slice.injEq, Addr.mk.injEq, and_true] at hvs
  obtain ⟨⟨rfl, rfl⟩, rfl, rfl⟩ := hvs
  obtain ⟨G, r1, r2, r3⟩ := q6 i hi
  have hbG : b ∉ G := fun x => h1.nb (r2 b x)
  refine ⟨G, r1, q4, hbG, fun w' y G' hy hs => ?_⟩
  obtain ⟨F1, s1, s2⟩ := r3 w' y G' hy hs
  refine ⟨h3 _ _ _ s1 s2, ?_⟩
  exact hs.cellNe q1 hbG (fun e => q4 e.symm)
theorem seatPtr_some {g off n cap i : Nat} : seatPtr (.slice (some ⟨g, off, none⟩) n cap) (some i) = some ⟨g, off + i * 8, none⟩ := rfl
theorem hostRow (H : Here hostR w b o h F) (hl : 0 < h.seats.length) : ∃ g off cap, w.cell? ⟨b, o + 1, none⟩ = some (.slice (some ⟨g, off, none⟩) h.seats.length cap) := by
  obtain ⟨G1, h1, h2, h3⟩ := H.field hostR_seats (by show 0 < 3; decide)
  obtain ⟨g', off', cap', q1, _⟩ := h1.elem hl
  exact ⟨g', off', cap', q1⟩
end

def newSeat (page : ByteArray) : Seat := ⟨page, 1, 1, 0, ⟨#[]⟩, [], [], []⟩
def startM (h : Host) (page : ByteArray) : Int × Host :=
  if ¬ (1 ≤ page.size ∧ page.size ≤ 200) then (1, h) else if (findS page h.seats 0).isSome then (9, h) else (0, { h with seats := h.seats ++ [newSeat page] })
def runsM (h : Host) (page : ByteArray) : Int × Bool :=
  match findS page h.seats 0 with
  | none => (0, false)
  | some i => if (h.seats.getD i (newSeat page)).state = 1 then ((h.seats.getD i (newSeat page)).epoch, true) else (0, false)
def letterM (h : Host) (page : ByteArray) : ByteArray × Bool :=
  match findS page h.seats 0 with
  | none => (⟨#[]⟩, false)
  | some i => if (h.seats.getD i (newSeat page)).state = 1 ∧ 1 < (h.seats.getD i (newSeat page)).epoch then ((h.seats.getD i (newSeat page)).letter, true) else (⟨#[]⟩, false)
def withdrawM (h : Host) (page : ByteArray) : Int × Host :=
  match findS page h.seats 0 with
  | none => (6, h)
  | some i =>
    let s := h.seats.getD i (newSeat page)
    if s.state ≠ 2 then (7, h) else (0, { h with seats := h.seats.set i { s with state := 3 }, out := h.out ++ [⟨5, h.id, s.peer, s.page, s.epoch, 0, 0, ⟨#[]⟩⟩] })

set_option maxHeartbeats 400000 in
theorem new_any (id : Int) (w : World) :
    Calls Try.prog 11 #[.int .i64 id] w fun e w' => e = .returned (.tuple #[.agg #[.int .i64 (if id < 0 then 0 else id), .slice none 0 0, .slice none 0 0], .int .i64 (if id < 0 then 1 else 0)]) ∧ Chg (fun _ => False) w w' := by
  by_cases h : id < 0
  · have hd : decide (id < 0) = true := by simpa using h
    rw [if_pos h, if_pos h]
    clear h
    go_enter Try.func11, Try.ntmps11
    go_wp2_with fail
    exact bodyPost_ret (v := .tuple #[.agg #[.int .i64 0, .slice none 0 0, .slice none 0 0], .int .i64 1]) (by simp [results, Try.results11, go_sem]) rfl ⟨rfl, Chg.alloc _ _ _⟩
  · have hd : decide (id < 0) = false := by simpa using h
    rw [if_neg h, if_neg h]
    clear h
    go_enter Try.func11, Try.ntmps11
    go_wp2_with fail
    exact bodyPost_ret (v := .tuple #[.agg #[.int .i64 id, .slice none 0 0, .slice none 0 0], .int .i64 0]) (by simp [results, Try.results11, go_sem]) rfl ⟨rfl, Chg.alloc _ _ _⟩

set_option maxHeartbeats 800000 in
set_option maxRecDepth 100000 in
theorem start_any (w : World) (b o : Nat) (h : Host) (F : List Nat) (page : ByteArray) (H : Here hostR w b o h F) (hs : page.size ≤ 9223372036854775807) (hl : Few h.seats.length) :
    Calls Try.prog 14 #[.pointer (some ⟨b, o, none⟩), .string page] w fun e w' => e = .returned (.int .i64 (startM h page).1) ∧ HostPost w b o (startM h page).2 F w' := by
  have HS := Lib.hid hs
  clear hs
  by_cases hn : 1 ≤ page.size ∧ page.size ≤ 200
  · have hd : decide (1 ≤ page.size ∧ page.size ≤ 200) = true := by simpa using hn
    obtain ⟨vs, vo, -, c1, -, F1, F2, -⟩ := hostCells H
    cases hf : findS page h.seats 0 with
    | some i =>
      have hM : startM h page = (9, h) := by unfold startM; rw [if_neg (by simpa using hn), if_pos (by rw [hf]; rfl)]
      rw [hM]
      show Calls _ _ _ _ fun e w' => e = .returned (.int .i64 9) ∧ HostPost w b o h F w'
      have hlt := findS_lt page h.seats 0 i hf
      obtain ⟨g, off, cap, hv⟩ := hostRow H (by omega)
      rw [hv] at c1
      cases c1
      have HF := Lib.hid hf
      clear hn hM hf hlt
      go_enter Try.func14, Try.ntmps14
      go_wp2_with fail
      refine (named_any page w HS.out).mono ?_
      rintro e w1 ⟨rfl, rfl⟩
      rw [hd]
      go_wp2_with fail
      refine (seat_any w b o h F page _ H hv).mono ?_
      rintro e w2 ⟨rfl, hc2⟩
      rw [HF.out, seatPtr_some]
      clear hv
      go_wp2_with fail
      go_ret
      exact ⟨rfl, hostStill H hc2⟩
    | none =>
      have hM : startM h page = (0, { h with seats := h.seats ++ [newSeat page] }) := by unfold startM; rw [if_neg (by simpa using hn), if_neg (by rw [hf]; simp)]
      rw [hM]
      show Calls _ _ _ _ fun e w' => e = .returned (.int .i64 0) ∧ HostPost w b o { h with seats := h.seats ++ [newSeat page] } F w'
      have HF := Lib.hid hf
      have HE := Lib.hid elem_seat
      clear hn hM hf
      go_enter Try.func14, Try.ntmps14
      go_wp2_with fail
      refine (named_any page w HS.out).mono ?_
      rintro e w1 ⟨rfl, rfl⟩
      rw [hd]
      go_wp2_with fail
      refine (seat_any w b o h F page vs H c1).mono ?_
      rintro e w2 ⟨rfl, hc2⟩
      rw [HF.out, show seatPtr vs none = none from rfl]
      have H2 := H.still hc2
      obtain ⟨G, HR, -, hback⟩ := H2.field hostR_seats (by show 0 < 3; decide)
      obtain ⟨vr, xs, Fs, d1, hopen⟩ := HR.openRow
      obtain ⟨ar, capr, rfl, _, _⟩ := hopen.val
      have fz := HR.frozen (o + 1)
      have hrowA := hopen.row.alloc (.cells #[.string page, .int .i64 1, .int .i64 1, .int .i64 0, .string ⟨#[]⟩, .slice none 0 0, .slice none 0 0, .slice none 0 0] 67)
      have hchA := Chg.alloc (fun _ => False) w2 (.cells #[.string page, .int .i64 1, .int .i64 1, .int .i64 0, .string ⟨#[]⟩, .slice none 0 0, .slice none 0 0, .slice none 0 0] 67)
      obtain ⟨cb, Tb, hbox⟩ := HR.boxed
      have HBA := Lib.hid (hchA.keep hbox (fun x => x))
      have hbc : Hid (¬ (Value.slice ar h.seats.length capr).ownBlock = some b) := Lib.hid (fun hk => HR.nb (by rw [hopen.fp]; exact List.mem_append_left _ (mem_ownL.2 hk)))
      have HCC : Hid (cb[o + 1]? = some (.slice ar h.seats.length capr)) := Lib.hid (by simpa [World.cell?, hbox] using d1)
      clear hbox c1
      go_wp2_with (first
        | (at_builtin; refine list_append_elem rfl (.tmp 16) (.tmp 19) 23 rfl 67 8 128 Try.underlying23 HE.out (by decide) _ h.seats.length xs.flatten rfl hrowA [.string page, .int .i64 1, .int .i64 1, .int .i64 0, .string ⟨#[]⟩, .slice none 0 0, .slice none 0 0, .slice none 0 0] rfl w2.heap.size 67 (0, 0) rfl (alloc_block w2 _) (by simp [Value.oneCell']) (by have := hl.lt; unfold maxLen; omega) (by have := hl.lt; omega) ?_; intro a3 n3 c3 w3 hrow3 hchg3 hold3; have hb3 := hchg3.keep HBA.out hbc.out; have f3 := frozen_of_block (i := o + 1) hb3; have cc3 := cell_of_block (i := o + 1) hb3 HCC.out))
      go_ret
      refine ⟨rfl, ?_⟩
      have hown : seatR.own (w2.alloc (.cells #[.string page, .int .i64 1, .int .i64 1, .int .i64 0, .string ⟨#[]⟩, .slice none 0 0, .slice none 0 0, .slice none 0 0] 67)) [.string page, .int .i64 1, .int .i64 1, .int .i64 0, .string ⟨#[]⟩, .slice none 0 0, .slice none 0 0, .slice none 0 0] (newSeat page) [] :=
        ⟨_, _, _, [], [], [], rfl, row_flat.2 ⟨_, rfl, RowAt.nil _ _ _, rfl⟩, row_flat.2 ⟨_, rfl, RowAt.nil _ _ _, rfl⟩, row_flat.2 ⟨_, rfl, RowAt.nil _ _ _, rfl⟩, rfl⟩
      obtain ⟨F', p, q⟩ := hopen.push (a := newSeat page) (G := []) HR hchA hown (by simp) (by simp) hrow3 hchg3 hold3
      exact HostPost.pre hc2 (hback _ _ _ p q)
  · have hd : decide (1 ≤ page.size ∧ page.size ≤ 200) = false := by simpa using hn
    have hM : startM h page = (1, h) := by unfold startM; rw [if_pos (by simpa using hn)]
    rw [hM]
    show Calls _ _ _ _ fun e w' => e = .returned (.int .i64 1) ∧ HostPost w b o h F w'
    clear hn hM
    go_enter Try.func14, Try.ntmps14
    go_wp2_with fail
    refine (named_any page w HS.out).mono ?_
    rintro e w1 ⟨rfl, rfl⟩
    rw [hd]
    go_wp2_with fail
    go_ret
    exact ⟨rfl, hostStill H (.refl _ _)⟩

set_option maxHeartbeats 400000 in
set_option maxRecDepth 100000 in
theorem send_any (w : World) (b o : Nat) (h : Host) (F : List Nat) (H : Here hostR w b o h F) :
    Calls Try.prog 17 #[.pointer (some ⟨b, o, none⟩)] w fun e w' => ∃ v F1 G, e = .returned v ∧ Here hostR w' b o { h with out := [] } F1 ∧ Step w w' b o 3 F F1 ∧ outR.own w' [v] h.out G ∧ (∀ k ∈ G, k ∈ F ∧ k ∉ F1 ∧ k ≠ b) ∧ G.Nodup := by
  obtain ⟨G, HO, hsub, hback⟩ := H.fieldX hostR_out (by show 0 < 3; decide)
  obtain ⟨v, xs, Fs, c2, hopen⟩ := HO.openRow
  have fz := HO.frozen (o + 2)
  have hlt := HO.lt.1
  obtain ⟨ar, capr, rfl, _, _⟩ := hopen.val
  go_enter Try.func17, Try.ntmps17
  go_wp2_with fail
  go_ret
  have hp := HO.put (w2 := w) (v := .slice none 0 0) (y := ([] : List Msg)) (G' := []) rfl (.refl _ _) (row_flat.2 ⟨_, rfl, RowAt.nil _ _ _, rfl⟩) (by simp) (by simp)
  obtain ⟨F1, p, q, hr⟩ := hback _ _ _ hp.1 hp.2
  refine ⟨_, F1, G, rfl, p, q, outR.chg hopen.own (Chg.setCell w ⟨b, o + 2, none⟩ _) (fun k hk e => HO.nb (by have e' : k = b := e; rwa [e'] at hk)), fun k hk => ⟨hsub k hk, fun x => ?_, fun e => HO.nb (e ▸ hk)⟩, HO.nd⟩
  rcases hr k x with y | y
  · cases y
  · exact y.2 hk

set_option maxHeartbeats 800000 in
set_option maxRecDepth 100000 in
theorem runs_any (w : World) (b o : Nat) (h : Host) (F : List Nat) (page : ByteArray) (H : Here hostR w b o h F) :
    Calls Try.prog 15 #[.pointer (some ⟨b, o, none⟩), .string page] w fun e w' => e = .returned (.tuple #[.int .i64 (runsM h page).1, .bool (runsM h page).2]) ∧ Chg (fun _ => False) w w' := by
  obtain ⟨vs, vo, -, c1, -, F1, F2, -⟩ := hostCells H
  cases hf : findS page h.seats 0 with
  | none =>
    have hM : runsM h page = (0, false) := by unfold runsM; rw [hf]
    rw [hM]
    show Calls _ _ _ _ fun e w' => e = .returned (.tuple #[.int .i64 0, .bool false]) ∧ Chg (fun _ => False) w w'
    have HF := Lib.hid hf
    clear hM hf
    go_enter Try.func15, Try.ntmps15
    go_wp2_with fail
    refine (seat_any w b o h F page vs H c1).mono ?_
    rintro e w2 ⟨rfl, hc2⟩
    rw [HF.out, show seatPtr vs none = none from rfl]
    go_wp2_with fail
    go_ret2
    exact ⟨rfl, hc2⟩
  | some i =>
    have hlt := findS_lt page h.seats 0 i hf
    have hi : i < h.seats.length := by omega
    obtain ⟨g, off, cap, hv⟩ := hostRow H (by omega)
    obtain ⟨G, HS, -⟩ := hostSeat H hv hi
    rw [hv] at c1
    cases c1
    by_cases hst : h.seats[i].state = 1
    · have hM : runsM h page = (h.seats[i].epoch, true) := by unfold runsM; rw [hf]; simp [hi, hst]
      rw [hM]
      show Calls _ _ _ _ fun e w' => e = .returned (.tuple #[.int .i64 h.seats[i].epoch, .bool true]) ∧ Chg (fun _ => False) w w'
      have HF := Lib.hid hf
      have hb : (h.seats[i].state == 1) = true := by simpa using hst
      clear hM hf hst hlt
      go_enter Try.func15, Try.ntmps15
      go_wp2_with fail
      refine (seat_any w b o h F page _ H hv).mono ?_
      rintro e w2 ⟨rfl, hc2⟩
      rw [HF.out, seatPtr_some]
      obtain ⟨_, _, _, s0, s1, s2, s3, -⟩ := seatCells (HS.still hc2)
      clear hv
      go_wp2_with fail
      go_ret2
      exact ⟨rfl, hc2⟩
    · have hM : runsM h page = (0, false) := by unfold runsM; rw [hf]; simp [hi, hst]
      rw [hM]
      show Calls _ _ _ _ fun e w' => e = .returned (.tuple #[.int .i64 0, .bool false]) ∧ Chg (fun _ => False) w w'
      have HF := Lib.hid hf
      have hb : (h.seats[i].state == 1) = false := by simpa using hst
      clear hM hf hst hlt
      go_enter Try.func15, Try.ntmps15
      go_wp2_with fail
      refine (seat_any w b o h F page _ H hv).mono ?_
      rintro e w2 ⟨rfl, hc2⟩
      rw [HF.out, seatPtr_some]
      obtain ⟨_, _, _, s0, s1, s2, s3, -⟩ := seatCells (HS.still hc2)
      clear hv
      go_wp2_with fail
      go_ret2
      exact ⟨rfl, hc2⟩

set_option maxHeartbeats 800000 in
set_option maxRecDepth 100000 in
theorem letter_any (w : World) (b o : Nat) (h : Host) (F : List Nat) (page : ByteArray) (H : Here hostR w b o h F) :
    Calls Try.prog 16 #[.pointer (some ⟨b, o, none⟩), .string page] w fun e w' => e = .returned (.tuple #[.string (letterM h page).1, .bool (letterM h page).2]) ∧ Chg (fun _ => False) w w' := by
  obtain ⟨vs, vo, -, c1, -, F1, F2, -⟩ := hostCells H
  cases hf : findS page h.seats 0 with
  | none =>
    have hM : letterM h page = (⟨#[]⟩, false) := by unfold letterM; rw [hf]
    rw [hM]
    show Calls _ _ _ _ fun e w' => e = .returned (.tuple #[.string ⟨#[]⟩, .bool false]) ∧ Chg (fun _ => False) w w'
    have HF := Lib.hid hf
    clear hM hf
    go_enter Try.func16, Try.ntmps16
    go_wp2_with fail
    refine (seat_any w b o h F page vs H c1).mono ?_
    rintro e w2 ⟨rfl, hc2⟩
    rw [HF.out, show seatPtr vs none = none from rfl]
    go_wp2_with fail
    go_ret2
    exact ⟨rfl, hc2⟩
  | some i =>
    have hlt := findS_lt page h.seats 0 i hf
    have hi : i < h.seats.length := by omega
    obtain ⟨g, off, cap, hv⟩ := hostRow H (by omega)
    obtain ⟨G, HS, -⟩ := hostSeat H hv hi
    rw [hv] at c1
    cases c1
    by_cases hst : h.seats[i].state = 1
    · have hb : (h.seats[i].state == 1) = true := by simpa using hst
      by_cases hep : 1 < h.seats[i].epoch
      · have hM : letterM h page = (h.seats[i].letter, true) := by unfold letterM; rw [hf]; simp [hi, hst, hep]
        rw [hM]
        show Calls _ _ _ _ fun e w' => e = .returned (.tuple #[.string h.seats[i].letter, .bool true]) ∧ Chg (fun _ => False) w w'
        have HF := Lib.hid hf
        have hb2 : decide (1 < h.seats[i].epoch) = true := by simpa using hep
        clear hM hf hst hlt hep
        go_enter Try.func16, Try.ntmps16
        go_wp2_with fail
        refine (seat_any w b o h F page _ H hv).mono ?_
        rintro e w2 ⟨rfl, hc2⟩
        rw [HF.out, seatPtr_some]
        obtain ⟨_, _, _, s0, s1, s2, s3, s4, -⟩ := seatCells (HS.still hc2)
        clear hv
        go_wp2_with fail
        go_ret2
        exact ⟨rfl, hc2⟩
      · have hM : letterM h page = (⟨#[]⟩, false) := by unfold letterM; rw [hf]; simp [hi, hep]
        rw [hM]
        show Calls _ _ _ _ fun e w' => e = .returned (.tuple #[.string ⟨#[]⟩, .bool false]) ∧ Chg (fun _ => False) w w'
        have HF := Lib.hid hf
        have hb2 : decide (1 < h.seats[i].epoch) = false := by simpa using hep
        clear hM hf hst hlt hep
        go_enter Try.func16, Try.ntmps16
        go_wp2_with fail
        refine (seat_any w b o h F page _ H hv).mono ?_
        rintro e w2 ⟨rfl, hc2⟩
        rw [HF.out, seatPtr_some]
        obtain ⟨_, _, _, s0, s1, s2, s3, s4, -⟩ := seatCells (HS.still hc2)
        clear hv
        go_wp2_with fail
        go_ret2
        exact ⟨rfl, hc2⟩
    · have hM : letterM h page = (⟨#[]⟩, false) := by unfold letterM; rw [hf]; simp [hi, hst]
      rw [hM]
      show Calls _ _ _ _ fun e w' => e = .returned (.tuple #[.string ⟨#[]⟩, .bool false]) ∧ Chg (fun _ => False) w w'
      have HF := Lib.hid hf
      have hb : (h.seats[i].state == 1) = false := by simpa using hst
      clear hM hf hst hlt
      go_enter Try.func16, Try.ntmps16
      go_wp2_with fail
      refine (seat_any w b o h F page _ H hv).mono ?_
      rintro e w2 ⟨rfl, hc2⟩
      rw [HF.out, seatPtr_some]
      obtain ⟨_, _, _, s0, s1, s2, s3, s4, -⟩ := seatCells (HS.still hc2)
      clear hv
      go_wp2_with fail
      go_ret2
      exact ⟨rfl, hc2⟩
end Go.Proofs.Ytkoopagjjmdodaa
