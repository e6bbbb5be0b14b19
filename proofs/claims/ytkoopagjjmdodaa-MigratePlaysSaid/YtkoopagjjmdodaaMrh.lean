/-
  The machine of layer 54, receiving: accept.
-/
import Derived.Test.YtkoopagjjmdodaaMru
import Derived.Test.YtkoopagjjmdodaaMake
import Derived.Test.YtkoopagjjmdodaaCopy
import Derived.Test.YtkoopagjjmdodaaShelf54
namespace Go.Proofs.Ytkoopagjjmdodaa
open Go.RowKit
set_option linter.unusedVariables false
set_option linter.unusedSimpArgs false

def recvS (s : Seat) (m : Msg) : Seat := { resetS s 4 m.epoch with peer := m.frm, letter := ⟨#[]⟩, parts := List.replicate m.count.toNat ⟨#[]⟩, have_ := List.replicate m.count.toNat false }
def joinL (l : List ByteArray) : ByteArray := ⟨(Lib.join (l.map (·.data.toList)) []).toArray⟩
def gotS (s : Seat) (m : Msg) : Seat := { s with parts := s.parts.set m.index.toNat m.data, have_ := s.have_.set m.index.toNat true }
def partB (s : Seat) (m : Msg) : Bool := m.kind == 2 && fromB s m && (s.parts.length : Int) == m.count && !(s.have_.getD m.index.toNat true)
/-- A part at a seat. -/
def partM (h : Host) (j : Nat) (m : Msg) : Host :=
  if partB (h.seats.getD j (blankSeat m.page)) m = true then
    if (gotS (h.seats.getD j (blankSeat m.page)) m).have_.contains false = true then { h with seats := h.seats.set j (gotS (h.seats.getD j (blankSeat m.page)) m) }
    else { h with seats := h.seats.set j { resetS (gotS (h.seats.getD j (blankSeat m.page)) m) 1 m.epoch with letter := joinL (gotS (h.seats.getD j (blankSeat m.page)) m).parts }, out := h.out ++ [answerM h m 4] }
  else h
def acceptM (h : Host) (m : Msg) : Host :=
  match findS m.page h.seats 0 with
  | none => partM { h with seats := h.seats ++ [recvS (blankSeat m.page) m] } h.seats.length m
  | some j => if freeM (h.seats.getD j (blankSeat m.page)) = true then partM { h with seats := h.seats.set j (recvS (h.seats.getD j (blankSeat m.page)) m) } j m else partM h j m
/-- What is asked of a seat. -/
structure SeatOk (s : Seat) : Prop where
  same : s.have_.length = s.parts.length
  few : s.parts.length ≤ 20000
  small : ∀ p ∈ s.parts, p.size ≤ 1000
theorem recvS_ok (s : Seat) (m : Msg) (h : m.count ≤ 20000) : SeatOk (recvS s m) :=
  ⟨by simp [recvS], by show (List.replicate _ _).length ≤ _; simp; omega, fun p hp => by
    have := List.eq_of_mem_replicate hp
    subst this
    decide⟩
theorem getS {h : Host} {j : Nat} {d : Seat} (hj : j < h.seats.length) : h.seats.getD j d = h.seats[j] := by simp [List.getD_eq_getElem?_getD, hj]
theorem join_nil : ∀ l : List (List UInt8), Lib.join l [] = l.flatten
  | [] => rfl
  | [x] => by simp [Lib.join, List.intercalate]
  | x :: y :: l => by
    have := join_nil (y :: l)
    unfold Lib.join at this ⊢
    rw [List.flatten_cons, ← this]
    simp [List.intercalate]
theorem join_len (l : List ByteArray) (n : Nat) (h : ∀ p ∈ l, p.size ≤ n) : (Lib.join (l.map (·.data.toList)) []).length ≤ l.length * n := by
  rw [join_nil]
  induction l with
  | nil => simp
  | cons x l ih =>
    have h1 := h x (List.mem_cons_self ..)
    have h2 := ih (fun p hp => h p (List.mem_cons_of_mem _ hp))
    have h3 : x.data.toList.length = x.size := by simp
    rw [List.map_cons, List.flatten_cons, List.length_append, List.length_cons, Nat.add_mul, h3]
    omega
theorem info_str : (Try.prog.info? 9).map (fun i => (i.zero, i.size, i.bytes)) = some (some (.string ⟨#[]⟩), 1, 16) := by kernel_rfl
theorem info_bool : (Try.prog.info? 4).map (fun i => (i.zero, i.size, i.bytes)) = some (some (.bool false), 1, 1) := by kernel_rfl
theorem made_strs (W : World) (n : Int) (h0 : 0 ≤ n) (h1 : n ≤ 20000) : (Instr.makeSlice 63 (.int .i64 n) (.int .i64 n)).run Try.prog W = .ok (.slice (some ⟨W.heap.size, 0, none⟩) n.toNat n.toNat) (W.alloc (.cells (Array.replicate n.toNat (.string ⟨#[]⟩)) 9)) :=
  run_makeOne Try.underlying63 info_str rfl n h0 (by omega) (by omega) W
theorem made_bools (W : World) (n : Int) (h0 : 0 ≤ n) (h1 : n ≤ 20000) : (Instr.makeSlice 64 (.int .i64 n) (.int .i64 n)).run Try.prog W = .ok (.slice (some ⟨W.heap.size, 0, none⟩) n.toNat n.toNat) (W.alloc (.cells (Array.replicate n.toNat (.bool false)) 4)) :=
  run_makeOne Try.underlying64 info_bool rfl n h0 (by omega) (by omega) W

/-- Behind the first part of accept. -/
def AccRel (w : World) (b o : Nat) (F : List Nat) (m : Msg) (h : Host) (u : Value) (wx : World) : Prop :=
  ∃ g off n cap j h1, ∃ hj : j < h1.seats.length, u = .pointer (some ⟨g, off + j * 8, none⟩) ∧ Rx w wx b o F m h1 ∧ wx.cell? ⟨b, o + 1, none⟩ = some (.slice (some ⟨g, off, none⟩) n cap) ∧
    acceptM h m = partM h1 j m ∧ h1.out = h.out ∧ h1.id = h.id ∧ SeatOk h1.seats[j]

set_option maxHeartbeats 6400000 in
set_option maxRecDepth 100000 in
theorem accept_any (w : World) (b o : Nat) (h : Host) (F : List Nat) (m : Msg) (vs : Value) (H : Here hostR w b o h F) (hv0 : w.cell? ⟨b, o + 1, none⟩ = some vs)
    (hol : Few h.out.length) (hsl : Few h.seats.length) (hok : ∀ s ∈ h.seats, SeatOk s) (hc1 : 1 ≤ m.count ∧ m.count ≤ 20000) (hi : 0 ≤ m.index ∧ (m.kind = 2 → m.index < m.count)) (hd : m.data.size ≤ 1000) :
    Calls Try.prog 59 #[.pointer (some ⟨b, o, none⟩), .pointer (seatPtr vs (findS m.page h.seats 0)), .agg m.cells.toArray] w fun e w' => e = .returned (.tuple #[]) ∧ HostPost w b o (acceptM h m) F w' := by
  have RX := Rx.start H m
  have hcA := Chg.alloc (fun _ => False) w (.cells #[.int .i64 m.kind, .int .i64 m.frm, .int .i64 m.dst, .string m.page, .int .i64 m.epoch, .int .i64 m.index, .int .i64 m.count, .string m.data] 39)
  have HV0 := Lib.hid (hcA.cell hv0)
  have HOL := Lib.hid hol
  have HSL := Lib.hid hsl
  have HOK := Lib.hid hok
  have HC1 := Lib.hid hc1
  have HI := Lib.hid hi
  have HD := Lib.hid hd
  clear H hol hsl hok hc1 hi hd hv0 hcA
  unfold Msg.cells
  change Rx w (w.alloc (.cells #[.int .i64 m.kind, .int .i64 m.frm, .int .i64 m.dst, .string m.page, .int .i64 m.epoch, .int .i64 m.index, .int .i64 m.count, .string m.data] 39)) b o F m h at RX
  obtain ⟨pt, fr, hpt, hfree, hcase⟩ : ∃ (pt : Option Addr) (fr : Bool), seatPtr vs (findS m.page h.seats 0) = pt ∧ Calls Try.prog 70 #[.pointer pt] (w.alloc (.cells #[.int .i64 m.kind, .int .i64 m.frm, .int .i64 m.dst, .string m.page, .int .i64 m.epoch, .int .i64 m.index, .int .i64 m.count, .string m.data] 39)) (fun e w' => e = .returned (.bool fr) ∧ w.alloc (.cells #[.int .i64 m.kind, .int .i64 m.frm, .int .i64 m.dst, .string m.page, .int .i64 m.epoch, .int .i64 m.index, .int .i64 m.count, .string m.data] 39) = w') ∧
      ((findS m.page h.seats 0 = none ∧ pt = none ∧ fr = true) ∨ ∃ g off cap j, ∃ hj : j < h.seats.length, findS m.page h.seats 0 = some j ∧ pt = some ⟨g, off + j * 8, none⟩ ∧ fr = freeM h.seats[j] ∧ (w.alloc (.cells #[.int .i64 m.kind, .int .i64 m.frm, .int .i64 m.dst, .string m.page, .int .i64 m.epoch, .int .i64 m.index, .int .i64 m.count, .string m.data] 39)).cell? ⟨b, o + 1, none⟩ = some (.slice (some ⟨g, off, none⟩) h.seats.length cap)) := by
    cases hf : findS m.page h.seats 0 with
    | none => exact ⟨none, true, rfl, free_none _, .inl ⟨rfl, rfl, rfl⟩⟩
    | some j =>
      have hjl : j < h.seats.length := by have := findS_lt m.page h.seats 0 j hf; omega
      obtain ⟨g, off, cap, hv⟩ := RX.row (by omega)
      have hve := HV0.out
      rw [hv] at hve
      cases hve
      obtain ⟨G0, HS0, -, hback0⟩ := RX.seat hv hjl
      exact ⟨_, _, rfl, free_some _ g (off + j * 8) h.seats[j] G0 HS0, .inr ⟨g, off, cap, j, hjl, rfl, seatPtr_some, rfl, hv⟩⟩
  rw [hpt]
  have HFREE := Lib.hid hfree
  have HCASE := Lib.hid hcase
  clear hpt hfree hcase HV0
  go_enter Try.func59, Try.ntmps59
  go_upto_region 1 with fail
  generalize w.alloc (.cells #[.int .i64 m.kind, .int .i64 m.frm, .int .i64 m.dst, .string m.page, .int .i64 m.epoch, .int .i64 m.index, .int .i64 m.count, .string m.data] 39) = w1 at *
  go_wp2_with fail
  refine HFREE.out.mono ?_
  rintro e w2 ⟨rfl, rfl⟩
  clear HFREE
  have RXH := Lib.hid RX
  clear RX
  go_upto_if 7 with fail
  go_cut [1] (fun u1 wx => AccRel w b o F m h u1 wx)
  case first =>
    rcases HCASE.out with ⟨hf, rfl, rfl⟩ | ⟨g, off, cap, j, hj, hf, rfl, hfr, hv⟩
    · clear HCASE
      have HFN := Lib.hid hf
      have RX := RXH.out
      clear hf RXH
      go_upto_region 3 with fail

      have RXe := RX.still ((Chg.refl _ w1).drewR)
      obtain ⟨F3, H3, S3, hn3⟩ := RXe.ex
      obtain ⟨p3, k3, xs3, Fs3, Fr3, d3, hopen3, -, haft3, hfin3⟩ := H3.fieldAppending hostR_seats (by show 0 < 3; decide)
      obtain ⟨b0, b1, b2, b3, b4, b5, b6, b7⟩ := RXe.cells
      have HES := Lib.hid elem_seat
      have HBX3 := Lib.hid RXe.box
      have HNO3 : Hid (¬ (Value.slice p3 h.seats.length k3).ownBlock = some w.heap.size) := Lib.hid (fun e => hn3 (H3.ownIn hostR_seats (by show 0 < 3; decide) d3 _ e))
      have HNX3 : Hid (∀ h2 w2, HostPost w1.drew b o h2 F3 w2 → Rx w w2 b o F m h2) := Lib.hid (fun h2 w2 hp => Rx.step RXe.low RXe.box S3 hn3 hp)
      have HOP3 := Lib.hid hopen3
      have HAFT3 := Lib.hid haft3
      have HFIN3 := Lib.hid hfin3
      clear hopen3 haft3 hfin3 hn3 H3 S3 RXe RX b0 b1 b2 b4 b5 b6 b7
      refine wp_region_held_split 12 (fun w' => w'.cell? ⟨b, o + 1, none⟩ = some (.slice p3 h.seats.length k3) ∧ w'.cell? ⟨w.heap.size, 3, none⟩ = some (.string m.page)) (by kernel_rfl) (by kernel_rfl) ?_ (fun hHeld => ?_)
      · (first | exact ⟨d3, b3⟩ | exact ⟨q4, cell_of_block (i := 3) m4 rfl⟩ | exact ⟨hchA3.cell d3, hchA3.cell b3⟩)
      simp only [List.take_succ_cons, List.take_zero]
      generalize w1.drew = wE at *
      have hrow3 := HOP3.out.row.alloc (.cells #[.string m.page, .int .i64 0, .int .i64 0, .int .i64 0, .string ⟨#[]⟩, .slice none 0 0, .slice none 0 0, .slice none 0 0] 67)
      have hchA3 := Chg.alloc (fun _ => False) wE (.cells #[.string m.page, .int .i64 0, .int .i64 0, .int .i64 0, .string ⟨#[]⟩, .slice none 0 0, .slice none 0 0, .slice none 0 0] 67)
      refine wpAnyH_take (i := 0) (v := ?_) rfl (by kernel_rfl) (by kernel_rfl) (by kernel_rfl) (fun _ _ _ h => h) (Or.inl ⟨by rfl, ?_⟩) (by assumption) ?_
      rotate_left
      · (intro wq hSw; (try dsimp only at hSw); go_simp; (try with_reducible rfl))
      simp only [Act.put, List.getElem_toArray, List.getElem_cons_zero, List.getElem_cons_succ, List.setIfInBounds_toArray, List.set_cons_zero, List.set_cons_succ]
      refine wpAnyH_take (i := 1) (v := ?_) rfl (by kernel_rfl) (by kernel_rfl) (by kernel_rfl) (fun _ _ _ h => h) (Or.inl ⟨by rfl, ?_⟩) (by assumption) ?_
      rotate_left
      · (intro wq hSw; (try dsimp only at hSw); go_simp; (try with_reducible rfl))
      simp only [Act.put, List.getElem_toArray, List.getElem_cons_zero, List.getElem_cons_succ, List.setIfInBounds_toArray, List.set_cons_zero, List.set_cons_succ]
      refine wpAnyH_take (i := 2) (v := ?_) rfl (by kernel_rfl) (by kernel_rfl) (by kernel_rfl) (fun _ _ _ h => h) (Or.inl ⟨by rfl, ?_⟩) (by assumption) ?_
      rotate_left
      · (intro wq hSw; (try dsimp only at hSw); go_simp; (try with_reducible rfl))
      simp only [Act.put, List.getElem_toArray, List.getElem_cons_zero, List.getElem_cons_succ, List.setIfInBounds_toArray, List.set_cons_zero, List.set_cons_succ]
      refine wpAnyH_take (i := 3) (v := ?_) rfl (by kernel_rfl) (by kernel_rfl) (by kernel_rfl) (fun _ _ _ h => h) (Or.inl ⟨by rfl, ?_⟩) (by assumption) ?_
      rotate_left
      · (intro wq hSw; (try dsimp only at hSw); go_simp; (try with_reducible rfl))
      simp only [Act.put, List.getElem_toArray, List.getElem_cons_zero, List.getElem_cons_succ, List.setIfInBounds_toArray, List.set_cons_zero, List.set_cons_succ]
      refine wpAnyH_take (i := 4) (v := ?_) rfl (by kernel_rfl) (by kernel_rfl) (by kernel_rfl) (fun _ _ _ h => h) (Or.inl ⟨by rfl, ?_⟩) (by assumption) ?_
      rotate_left
      · (intro wq hSw; (try dsimp only at hSw); go_simp; (try with_reducible rfl))
      simp only [Act.put, List.getElem_toArray, List.getElem_cons_zero, List.getElem_cons_succ, List.setIfInBounds_toArray, List.set_cons_zero, List.set_cons_succ]
      refine wpAnyH_take (i := 5) (v := ?_) rfl (by kernel_rfl) (by kernel_rfl) (by kernel_rfl) (fun _ _ _ h => h) (Or.inl ⟨by rfl, ?_⟩) (by assumption) ?_
      rotate_left
      · (intro wq hSw; (try dsimp only at hSw); go_simp; (try with_reducible rfl))
      simp only [Act.put, List.getElem_toArray, List.getElem_cons_zero, List.getElem_cons_succ, List.setIfInBounds_toArray, List.set_cons_zero, List.set_cons_succ]
      refine wpAnyH_take (i := 6) (v := ?_) rfl (by kernel_rfl) (by kernel_rfl) (by kernel_rfl) (fun _ _ _ h => h) (Or.inl ⟨by rfl, ?_⟩) (by assumption) ?_
      rotate_left
      · (intro wq hSw; (try dsimp only at hSw); go_simp; (try with_reducible rfl))
      simp only [Act.put, List.getElem_toArray, List.getElem_cons_zero, List.getElem_cons_succ, List.setIfInBounds_toArray, List.set_cons_zero, List.set_cons_succ]
      refine wpAnyH_take (i := 7) (v := ?_) rfl (by kernel_rfl) (by kernel_rfl) (by kernel_rfl) (fun _ _ _ h => h) (Or.inl ⟨by rfl, ?_⟩) (by assumption) ?_
      rotate_left
      · (intro wq hSw; (try dsimp only at hSw); go_simp; (try with_reducible rfl))
      simp only [Act.put, List.getElem_toArray, List.getElem_cons_zero, List.getElem_cons_succ, List.setIfInBounds_toArray, List.set_cons_zero, List.set_cons_succ]
      refine wpAnyH_ready (rs := [8]) (by kernel_rfl) (by simp) ?_
      refine AllReadyH.cons (by simp only [List.getElem?_toArray, List.getElem?_cons_succ, List.getElem?_cons_zero]; rfl) (fun K hK => ?_) AllReadyH.nil
      go_simp
      refine hK.out _ _ ?_ (fun hHeld => ?_)
      · (first | exact ⟨d3, b3⟩ | exact ⟨q4, cell_of_block (i := 3) m4 rfl⟩ | exact ⟨hchA3.cell d3, hchA3.cell b3⟩)
      clear hK K
      (try simp only [Act.put, List.getElem_toArray, List.getElem_cons_zero, List.getElem_cons_succ, List.setIfInBounds_toArray, List.set_cons_zero, List.set_cons_succ])
      refine wpAnyH_ready (rs := [9]) (by kernel_rfl) (by simp) ?_
      refine AllReadyH.cons (by simp only [List.getElem?_toArray, List.getElem?_cons_succ, List.getElem?_cons_zero]; rfl) (fun K hK => ?_) AllReadyH.nil
      (refine step_append_elem (by rfl) (.tmp 14) (.tmp 18) 23 (by rfl) 67 8 128 Try.underlying23 HES.out (by decide) _ h.seats.length xs3.flatten (by rfl) hrow3 [.string m.page, .int .i64 0, .int .i64 0, .int .i64 0, .string ⟨#[]⟩, .slice none 0 0, .slice none 0 0, .slice none 0 0] rfl wE.heap.size 67 (0, 0) (by rfl) (alloc_block wE _) (by simp [Value.oneCell']) (by have := HSL.out.lt; unfold maxLen; omega) (by have := HSL.out.lt; omega) ?_; intro a4 n4 c4 w4 hrow4 hchg4 hold4; obtain ⟨q4, z4⟩ := HAFT3.out _ _ hchA3 hchg4; have m4 := hchg4.keep (hchA3.keep HBX3.out (fun x => x)) HNO3.out)
      refine hK.out _ _ ?_ (fun hHeld => ?_)
      · (first | exact ⟨d3, b3⟩ | exact ⟨q4, cell_of_block (i := 3) m4 rfl⟩ | exact ⟨hchA3.cell d3, hchA3.cell b3⟩)
      clear hK K
      (try simp only [Act.put, List.getElem_toArray, List.getElem_cons_zero, List.getElem_cons_succ, List.setIfInBounds_toArray, List.set_cons_zero, List.set_cons_succ])
      refine wpAnyH_take (i := 10) (v := ?_) rfl (by kernel_rfl) (by kernel_rfl) (by kernel_rfl) (fun _ _ _ h => h) (Or.inl ⟨by rfl, ?_⟩) (by assumption) ?_
      rotate_left
      · (intro wq hSw; (try dsimp only at hSw); go_simp; (try with_reducible rfl))
      simp only [Act.put, List.getElem_toArray, List.getElem_cons_zero, List.getElem_cons_succ, List.setIfInBounds_toArray, List.set_cons_zero, List.set_cons_succ]
      refine wpAnyH_take (i := 11) (v := ?_) rfl (by kernel_rfl) (by kernel_rfl) (by kernel_rfl) (fun _ _ _ h => h) (Or.inl ⟨by rfl, ?_⟩) (by assumption) ?_
      rotate_left
      · (intro wq hSw; (try dsimp only at hSw); go_simp; (try with_reducible rfl))
      simp only [Act.put, List.getElem_toArray, List.getElem_cons_zero, List.getElem_cons_succ, List.setIfInBounds_toArray, List.set_cons_zero, List.set_cons_succ]
      refine wpAnyH_done (by kernel_rfl) ?_ _
      change wpList _ _ _ _ _ _
      simp only [List.drop_succ_cons, List.drop_zero]
      have hp4 := HFIN3.out _ _ [.string m.page, .int .i64 0, .int .i64 0, .int .i64 0, .string ⟨#[]⟩, .slice none 0 0, .slice none 0 0, .slice none 0 0] (blankSeat m.page) [] _ hchA3 (blank_own _ m.page) (by simp) (by simp) hrow4 hchg4 hold4
      have RX4 := HNX3.out _ _ hp4
      obtain ⟨b0, b1, b2, b3, b4, b5, b6, b7⟩ := RX4.cells
      obtain ⟨g, off, cp, hv4⟩ := RX4.row (by show 0 < (h.seats ++ [blankSeat m.page]).length; simp)
      have HX4 := Lib.hid RX4
      have HV4 := Lib.hid hv4
      clear hp4 hrow4 hchg4 hold4 hrow3 hchA3 RX4 m4 hv4
      go_wp2_with fail
      refine (HX4.out.find m.page HV4.out).mono ?_
      rintro e w5 ⟨rfl, hc5⟩
      rw [findS_snoc HFN.out (show (blankSeat m.page).page = m.page from rfl), seatPtr_some]
      have RX5 := HX4.out.still hc5
      have hv5 := hc5.cell HV4.out
      clear b0 b1 b2 b3 b4 b5 b6 b7 q4 z4 hc5 HX4 HV4
      rw [Nat.zero_add]
      have hj : h.seats.length < ({ h with seats := h.seats ++ [blankSeat m.page] } : Host).seats.length := by show _ < (h.seats ++ [blankSeat m.page]).length; simp
      have RX := RX5
      have hv := hv5
      clear RX5 hv5
      obtain ⟨G5, HS5, -, hback5⟩ := RX.seat hv hj
      have HBK5 := Lib.hid hback5
      clear hback5
      obtain ⟨b0, b1, b2, b3, b4, b5, b6, b7⟩ := RX.cells
      have HGN := Lib.hid (RX.apart hv)
      generalize hy5 : (h.seats ++ [blankSeat m.page])[h.seats.length] = y5 at *
      have HY5 := Lib.hid hy5
      have HS5h := Lib.hid HS5
      clear hy5 HS5 RX hv
      go_wp2_with fail
      refine (reset_any w5 g (off + h.seats.length * 8) y5 G5 4 m.epoch HS5h.out).mono ?_
      rintro e w6 ⟨rfl, K6, H6, S6⟩
      have RX6 := (HBK5.out _ _ ⟨K6, H6, S6⟩).1
      clear b0 b1 b2 b3 b4 b5 b6 b7
      obtain ⟨b0, b1, b2, b3, b4, b5, b6, b7⟩ := RX6.cells
      obtain ⟨K7, H7, S7⟩ := H6.setField seatR_peer (y := m.frm) (v := .int .i64 m.frm) rfl
      obtain ⟨K8, H8, S8⟩ := H7.setField seatR_letter (y := ⟨#[]⟩) (v := .string ⟨#[]⟩) rfl
      have RX8 := (HBK5.out _ _ ⟨K8, H8, (S6.trans S7).trans S8⟩).1
      have HS68 := Lib.hid ((S6.trans S7).trans S8)
      obtain ⟨_, _, _, -, -, -, x3, x4, -⟩ := seatCells H6
      have fz := H6.frozen
      have H8h := Lib.hid H8
      have RX8h := Lib.hid RX8
      clear S6 S7 S8 H6 H7 H8 RX6 RX8
      go_upto_region 7 with fail
      clear x3 x4 fz b0 b1 b2 b3 b4 b5 b6 b7
      generalize (w6.setCell ⟨g, off + h.seats.length * 8 + 3, none⟩ (.int .i64 m.frm)).setCell ⟨g, off + h.seats.length * 8 + 4, none⟩ (.string ⟨#[]⟩) = w8 at *
      have HST := Lib.hid (HS68.out.drewR)
      have HS8 := Lib.hid H8h.out.drew
      obtain ⟨b0, b1, b2, b3, b4, b5, b6, b7⟩ := (RX8h.out.still ((Chg.refl _ w8).drewR)).cells
      obtain ⟨v5, v6, v7, -, -, -, -, -, e5, e6, -⟩ := seatCells HS8.out
      clear HS68 H8h RX8h b0 b1 b2 b3 b4 b5 b7
      refine wp_region_held_split 11 (fun w' => w'.cell? ⟨w.heap.size, 6, none⟩ = some (.int .i64 m.count)) (by kernel_rfl) (by kernel_rfl) ?_ (fun hHeld => ?_)
      · (first | exact b6 | exact cA.out.cell b6 | exact cB.out.cell b6 | exact cAB.out.cell b6 | exact cBA.out.cell b6 | exact (Chg.setCell _ ⟨g, off + h.seats.length * 8 + 5, none⟩ _).cellNo (cA.out.cell b6) HGN.out | exact (Chg.setCell _ ⟨g, off + h.seats.length * 8 + 5, none⟩ _).cellNo (cAB.out.cell b6) HGN.out | exact (Chg.setCell _ ⟨g, off + h.seats.length * 8 + 5, none⟩ _).cellNo (cBA.out.cell b6) HGN.out | exact ((Chg.alloc (fun _ => False) _ _).cell ((Chg.setCell _ ⟨g, off + h.seats.length * 8 + 5, none⟩ _).cellNo (cA.out.cell b6) HGN.out)))
      simp only [List.take_succ_cons, List.take_zero]
      generalize w8.drew = wD at *
      have cA := Lib.hid (Chg.alloc (fun _ => False) wD (.cells (Array.replicate m.count.toNat (.string ⟨#[]⟩)) 9))
      have cB := Lib.hid (Chg.alloc (fun _ => False) wD (.cells (Array.replicate m.count.toNat (.bool false)) 4))
      have cAB := Lib.hid (cA.out.allocR (.cells (Array.replicate m.count.toNat (.bool false)) 4))
      have cBA := Lib.hid (cB.out.allocR (.cells (Array.replicate m.count.toNat (.string ⟨#[]⟩)) 9))
      have z5a := cA.out.cell e5
      have z5b := cAB.out.cell e5
      have z5c := cBA.out.cell e5
      have zfa := (HS8.out.still cA.out).frozen
      have zfb := (HS8.out.still cAB.out).frozen
      have zfc := (HS8.out.still cBA.out).frozen
      have hms := fun W => made_strs W m.count (by have := HC1.out; omega) HC1.out.2
      have hmb := fun W => made_bools W m.count (by have := HC1.out; omega) HC1.out.2
      refine wpAnyH_take (i := 0) (v := ?_) rfl (by kernel_rfl) (by kernel_rfl) (by kernel_rfl) (fun _ _ _ h => h) (Or.inl ⟨by rfl, ?_⟩) (by assumption) ?_
      rotate_left
      · (intro wq hSw; (try dsimp only at hSw); go_simp; (try with_reducible rfl))
      simp only [Act.put, List.getElem_toArray, List.getElem_cons_zero, List.getElem_cons_succ, List.setIfInBounds_toArray, List.set_cons_zero, List.set_cons_succ]
      refine wpAnyH_take (i := 1) (v := ?_) rfl (by kernel_rfl) (by kernel_rfl) (by kernel_rfl) (fun _ _ _ h => h) (Or.inl ⟨by rfl, ?_⟩) (by assumption) ?_
      rotate_left
      · (intro wq hSw; (try dsimp only at hSw); go_simp; (try with_reducible rfl))
      simp only [Act.put, List.getElem_toArray, List.getElem_cons_zero, List.getElem_cons_succ, List.setIfInBounds_toArray, List.set_cons_zero, List.set_cons_succ]
      refine wpAnyH_take (i := 2) (v := ?_) rfl (by kernel_rfl) (by kernel_rfl) (by kernel_rfl) (fun _ _ _ h => h) (Or.inl ⟨by rfl, ?_⟩) (by assumption) ?_
      rotate_left
      · (intro wq hSw; (try dsimp only at hSw); go_simp; (try with_reducible rfl))
      simp only [Act.put, List.getElem_toArray, List.getElem_cons_zero, List.getElem_cons_succ, List.setIfInBounds_toArray, List.set_cons_zero, List.set_cons_succ]
      refine wpAnyH_take (i := 3) (v := ?_) rfl (by kernel_rfl) (by kernel_rfl) (by kernel_rfl) (fun _ _ _ h => h) (Or.inl ⟨by rfl, ?_⟩) (by assumption) ?_
      rotate_left
      · (intro wq hSw; (try dsimp only at hSw); go_simp; (try with_reducible rfl))
      simp only [Act.put, List.getElem_toArray, List.getElem_cons_zero, List.getElem_cons_succ, List.setIfInBounds_toArray, List.set_cons_zero, List.set_cons_succ]
      refine wpAnyH_take (i := 5) (v := ?_) rfl (by kernel_rfl) (by kernel_rfl) (by kernel_rfl) (fun _ _ _ h => h) (Or.inl ⟨by rfl, ?_⟩) (by assumption) ?_
      rotate_left
      · (intro wq hSw; (try dsimp only at hSw); go_simp; (try with_reducible rfl))
      simp only [Act.put, List.getElem_toArray, List.getElem_cons_zero, List.getElem_cons_succ, List.setIfInBounds_toArray, List.set_cons_zero, List.set_cons_succ]
      refine wpAnyH_take (i := 6) (v := ?_) rfl (by kernel_rfl) (by kernel_rfl) (by kernel_rfl) (fun _ _ _ h => h) (Or.inl ⟨by rfl, ?_⟩) (by assumption) ?_
      rotate_left
      · (intro wq hSw; (try dsimp only at hSw); go_simp; (try with_reducible rfl))
      simp only [Act.put, List.getElem_toArray, List.getElem_cons_zero, List.getElem_cons_succ, List.setIfInBounds_toArray, List.set_cons_zero, List.set_cons_succ]
      refine wpAnyH_ready (rs := [4, 7]) (by kernel_rfl) (by simp) ?_
      refine AllReadyH.cons (by simp only [List.getElem?_toArray, List.getElem?_cons_succ, List.getElem?_cons_zero]; rfl) (fun K hK => ?_) ?_
      · go_simp
        refine hK.out _ _ ?_ (fun hHeld => ?_)
        · (first | exact b6 | exact cA.out.cell b6 | exact cB.out.cell b6 | exact cAB.out.cell b6 | exact cBA.out.cell b6 | exact (Chg.setCell _ ⟨g, off + h.seats.length * 8 + 5, none⟩ _).cellNo (cA.out.cell b6) HGN.out | exact (Chg.setCell _ ⟨g, off + h.seats.length * 8 + 5, none⟩ _).cellNo (cAB.out.cell b6) HGN.out | exact (Chg.setCell _ ⟨g, off + h.seats.length * 8 + 5, none⟩ _).cellNo (cBA.out.cell b6) HGN.out | exact ((Chg.alloc (fun _ => False) _ _).cell ((Chg.setCell _ ⟨g, off + h.seats.length * 8 + 5, none⟩ _).cellNo (cA.out.cell b6) HGN.out)))
        clear hK K
        (try simp only [Act.put, List.getElem_toArray, List.getElem_cons_zero, List.getElem_cons_succ, List.setIfInBounds_toArray, List.set_cons_zero, List.set_cons_succ])
        refine wpAnyH_take (i := 8) (v := ?_) rfl (by kernel_rfl) (by kernel_rfl) (by kernel_rfl) (fun _ _ _ h => h) (Or.inl ⟨by rfl, ?_⟩) (by assumption) ?_
        rotate_left
        · (intro wq hSw; (try dsimp only at hSw); go_simp; (try with_reducible rfl))
        simp only [Act.put, List.getElem_toArray, List.getElem_cons_zero, List.getElem_cons_succ, List.setIfInBounds_toArray, List.set_cons_zero, List.set_cons_succ]
        refine wpAnyH_take (i := 9) (v := ?_) rfl (by kernel_rfl) (by kernel_rfl) (by kernel_rfl) (fun _ _ _ h => h) (Or.inl ⟨by rfl, ?_⟩) (by assumption) ?_
        rotate_left
        · (intro wq hSw; (try dsimp only at hSw); go_simp; (try with_reducible rfl))
        simp only [Act.put, List.getElem_toArray, List.getElem_cons_zero, List.getElem_cons_succ, List.setIfInBounds_toArray, List.set_cons_zero, List.set_cons_succ]
        refine wpAnyH_ready (rs := [7, 10]) (by kernel_rfl) (by simp) ?_
        refine AllReadyH.cons (by simp only [List.getElem?_toArray, List.getElem?_cons_succ, List.getElem?_cons_zero]; rfl) (fun K hK => ?_) ?_
        · go_simp
          refine hK.out _ _ ?_ (fun hHeld => ?_)
          · (first | exact b6 | exact cA.out.cell b6 | exact cB.out.cell b6 | exact cAB.out.cell b6 | exact cBA.out.cell b6 | exact (Chg.setCell _ ⟨g, off + h.seats.length * 8 + 5, none⟩ _).cellNo (cA.out.cell b6) HGN.out | exact (Chg.setCell _ ⟨g, off + h.seats.length * 8 + 5, none⟩ _).cellNo (cAB.out.cell b6) HGN.out | exact (Chg.setCell _ ⟨g, off + h.seats.length * 8 + 5, none⟩ _).cellNo (cBA.out.cell b6) HGN.out | exact ((Chg.alloc (fun _ => False) _ _).cell ((Chg.setCell _ ⟨g, off + h.seats.length * 8 + 5, none⟩ _).cellNo (cA.out.cell b6) HGN.out)))
          clear hK K
          (try simp only [Act.put, List.getElem_toArray, List.getElem_cons_zero, List.getElem_cons_succ, List.setIfInBounds_toArray, List.set_cons_zero, List.set_cons_succ])
          refine wpAnyH_ready (rs := [10]) (by kernel_rfl) (by simp) ?_
          refine AllReadyH.cons (by simp only [List.getElem?_toArray, List.getElem?_cons_succ, List.getElem?_cons_zero]; rfl) (fun K hK => ?_) AllReadyH.nil
          go_simp
          refine hK.out _ _ ?_ (fun hHeld => ?_)
          · (first | exact b6 | exact cA.out.cell b6 | exact cB.out.cell b6 | exact cAB.out.cell b6 | exact cBA.out.cell b6 | exact (Chg.setCell _ ⟨g, off + h.seats.length * 8 + 5, none⟩ _).cellNo (cA.out.cell b6) HGN.out | exact (Chg.setCell _ ⟨g, off + h.seats.length * 8 + 5, none⟩ _).cellNo (cAB.out.cell b6) HGN.out | exact (Chg.setCell _ ⟨g, off + h.seats.length * 8 + 5, none⟩ _).cellNo (cBA.out.cell b6) HGN.out | exact ((Chg.alloc (fun _ => False) _ _).cell ((Chg.setCell _ ⟨g, off + h.seats.length * 8 + 5, none⟩ _).cellNo (cA.out.cell b6) HGN.out)))
          clear hK K
          (try simp only [Act.put, List.getElem_toArray, List.getElem_cons_zero, List.getElem_cons_succ, List.setIfInBounds_toArray, List.set_cons_zero, List.set_cons_succ])
          refine wpAnyH_done (by kernel_rfl) ?_ _
          change wpList _ _ _ _ _ _
          simp only [List.drop_succ_cons, List.drop_zero]
          have r5 := (RowAt.made wD 9 (.string ⟨#[]⟩) m.count.toNat (by have := HC1.out; unfold maxLen; omega)).alloc (.cells (Array.replicate m.count.toNat (.bool false)) 4)
          have r6 := RowAt.made (wD.alloc (.cells (Array.replicate m.count.toNat (.string ⟨#[]⟩)) 9)) 4 (.bool false) m.count.toNat (by have := HC1.out; unfold maxLen; omega)
          rw [World.size_alloc] at r6
          have hp9 : SeatPost wD g (off + h.seats.length * 8) (recvS y5 m) K8 ((((wD.alloc (.cells (Array.replicate m.count.toNat (.string ⟨#[]⟩)) 9)).alloc (.cells (Array.replicate m.count.toNat (.bool false)) 4)).setCell ⟨g, off + h.seats.length * 8 + 5, none⟩ (.slice (some ⟨wD.heap.size, 0, none⟩) m.count.toNat m.count.toNat)).setCell ⟨g, off + h.seats.length * 8 + 6, none⟩ (.slice (some ⟨(wD.heap.size + 1), 0, none⟩) m.count.toNat m.count.toNat)) :=
            seat_two HS8.out cAB.out (ps := List.replicate m.count.toNat ⟨#[]⟩) (hs := List.replicate m.count.toNat false) (by rw [List.length_replicate, List.map_replicate]; exact r5) (by rw [List.length_replicate, List.map_replicate]; exact r6) (own_at (by omega)) (own_at (by omega)) (own_ne (by omega))
          obtain ⟨K9, H9, S9⟩ := hp9
          obtain ⟨RX9, hv9⟩ := HBK5.out _ _ ⟨K9, H9, HST.out.trans S9⟩
          have z6 := cAB.out.cell e6
          have zf := (HS8.out.still cAB.out).frozen
          have HX9 := Lib.hid RX9
          have HV9 := Lib.hid hv9
          clear r5 r6 H9 S9 RX9 hv9
          go_wp2_with fail
          go_meet
          have hsj : (h.seats ++ [blankSeat m.page])[h.seats.length]'(by simp) = blankSeat m.page := by simp
          have hyb : y5 = blankSeat m.page := HY5.out.symm.trans hsj
          subst hyb
          have hacc : acceptM h m = partM { h with seats := h.seats ++ [recvS (blankSeat m.page) m] } h.seats.length m := by unfold acceptM; rw [HFN.out]
          have h9 := HX9.out
          have hse : ({ h with seats := h.seats ++ [blankSeat m.page] } : Host).seats.set h.seats.length (recvS (blankSeat m.page) m) = h.seats ++ [recvS (blankSeat m.page) m] := by simp
          rw [hse] at h9
          exact ⟨g, off, _, _, h.seats.length, _, (by show _ < (h.seats ++ [_]).length; simp), rfl, h9, HV9.out, hacc, rfl, rfl, by
            have hq : (h.seats ++ [recvS (blankSeat m.page) m])[h.seats.length]'(by simp) = recvS (blankSeat m.page) m := by simp
            show SeatOk ((h.seats ++ [recvS (blankSeat m.page) m])[h.seats.length]'(by simp))
            rw [hq]
            exact recvS_ok _ m HC1.out.2⟩
        refine AllReadyH.cons (by simp only [List.getElem?_toArray, List.getElem?_cons_succ, List.getElem?_cons_zero]; rfl) (fun K hK => ?_) ?_
        · go_simp
          refine hK.out _ _ ?_ (fun hHeld => ?_)
          · (first | exact b6 | exact cA.out.cell b6 | exact cB.out.cell b6 | exact cAB.out.cell b6 | exact cBA.out.cell b6 | exact (Chg.setCell _ ⟨g, off + h.seats.length * 8 + 5, none⟩ _).cellNo (cA.out.cell b6) HGN.out | exact (Chg.setCell _ ⟨g, off + h.seats.length * 8 + 5, none⟩ _).cellNo (cAB.out.cell b6) HGN.out | exact (Chg.setCell _ ⟨g, off + h.seats.length * 8 + 5, none⟩ _).cellNo (cBA.out.cell b6) HGN.out | exact ((Chg.alloc (fun _ => False) _ _).cell ((Chg.setCell _ ⟨g, off + h.seats.length * 8 + 5, none⟩ _).cellNo (cA.out.cell b6) HGN.out)))
          clear hK K
          (try simp only [Act.put, List.getElem_toArray, List.getElem_cons_zero, List.getElem_cons_succ, List.setIfInBounds_toArray, List.set_cons_zero, List.set_cons_succ])
          refine wpAnyH_ready (rs := [7]) (by kernel_rfl) (by simp) ?_
          refine AllReadyH.cons (by simp only [List.getElem?_toArray, List.getElem?_cons_succ, List.getElem?_cons_zero]; rfl) (fun K hK => ?_) AllReadyH.nil
          go_simp
          refine hK.out _ _ ?_ (fun hHeld => ?_)
          · (first | exact b6 | exact cA.out.cell b6 | exact cB.out.cell b6 | exact cAB.out.cell b6 | exact cBA.out.cell b6 | exact (Chg.setCell _ ⟨g, off + h.seats.length * 8 + 5, none⟩ _).cellNo (cA.out.cell b6) HGN.out | exact (Chg.setCell _ ⟨g, off + h.seats.length * 8 + 5, none⟩ _).cellNo (cAB.out.cell b6) HGN.out | exact (Chg.setCell _ ⟨g, off + h.seats.length * 8 + 5, none⟩ _).cellNo (cBA.out.cell b6) HGN.out | exact ((Chg.alloc (fun _ => False) _ _).cell ((Chg.setCell _ ⟨g, off + h.seats.length * 8 + 5, none⟩ _).cellNo (cA.out.cell b6) HGN.out)))
          clear hK K
          (try simp only [Act.put, List.getElem_toArray, List.getElem_cons_zero, List.getElem_cons_succ, List.setIfInBounds_toArray, List.set_cons_zero, List.set_cons_succ])
          refine wpAnyH_done (by kernel_rfl) ?_ _
          change wpList _ _ _ _ _ _
          simp only [List.drop_succ_cons, List.drop_zero]
          rw [← World.setCell_alloc_past (w := wD.alloc (.cells (Array.replicate m.count.toNat (.string ⟨#[]⟩)) 9)) _ g _ _ (by rw [World.size_alloc]; have := HS8.out.lt.1; omega)]
          have r5 := (RowAt.made wD 9 (.string ⟨#[]⟩) m.count.toNat (by have := HC1.out; unfold maxLen; omega)).alloc (.cells (Array.replicate m.count.toNat (.bool false)) 4)
          have r6 := RowAt.made (wD.alloc (.cells (Array.replicate m.count.toNat (.string ⟨#[]⟩)) 9)) 4 (.bool false) m.count.toNat (by have := HC1.out; unfold maxLen; omega)
          rw [World.size_alloc] at r6
          have hp9 : SeatPost wD g (off + h.seats.length * 8) (recvS y5 m) K8 ((((wD.alloc (.cells (Array.replicate m.count.toNat (.string ⟨#[]⟩)) 9)).alloc (.cells (Array.replicate m.count.toNat (.bool false)) 4)).setCell ⟨g, off + h.seats.length * 8 + 5, none⟩ (.slice (some ⟨wD.heap.size, 0, none⟩) m.count.toNat m.count.toNat)).setCell ⟨g, off + h.seats.length * 8 + 6, none⟩ (.slice (some ⟨(wD.heap.size + 1), 0, none⟩) m.count.toNat m.count.toNat)) :=
            seat_two HS8.out cAB.out (ps := List.replicate m.count.toNat ⟨#[]⟩) (hs := List.replicate m.count.toNat false) (by rw [List.length_replicate, List.map_replicate]; exact r5) (by rw [List.length_replicate, List.map_replicate]; exact r6) (own_at (by omega)) (own_at (by omega)) (own_ne (by omega))
          obtain ⟨K9, H9, S9⟩ := hp9
          obtain ⟨RX9, hv9⟩ := HBK5.out _ _ ⟨K9, H9, HST.out.trans S9⟩
          have z6 := cAB.out.cell e6
          have zf := (HS8.out.still cAB.out).frozen
          have HX9 := Lib.hid RX9
          have HV9 := Lib.hid hv9
          clear r5 r6 H9 S9 RX9 hv9
          go_wp2_with fail
          go_meet
          have hsj : (h.seats ++ [blankSeat m.page])[h.seats.length]'(by simp) = blankSeat m.page := by simp
          have hyb : y5 = blankSeat m.page := HY5.out.symm.trans hsj
          subst hyb
          have hacc : acceptM h m = partM { h with seats := h.seats ++ [recvS (blankSeat m.page) m] } h.seats.length m := by unfold acceptM; rw [HFN.out]
          have h9 := HX9.out
          have hse : ({ h with seats := h.seats ++ [blankSeat m.page] } : Host).seats.set h.seats.length (recvS (blankSeat m.page) m) = h.seats ++ [recvS (blankSeat m.page) m] := by simp
          rw [hse] at h9
          exact ⟨g, off, _, _, h.seats.length, _, (by show _ < (h.seats ++ [_]).length; simp), rfl, h9, HV9.out, hacc, rfl, rfl, by
            have hq : (h.seats ++ [recvS (blankSeat m.page) m])[h.seats.length]'(by simp) = recvS (blankSeat m.page) m := by simp
            show SeatOk ((h.seats ++ [recvS (blankSeat m.page) m])[h.seats.length]'(by simp))
            rw [hq]
            exact recvS_ok _ m HC1.out.2⟩
        exact AllReadyH.nil
      refine AllReadyH.cons (by simp only [List.getElem?_toArray, List.getElem?_cons_succ, List.getElem?_cons_zero]; rfl) (fun K hK => ?_) ?_
      · go_simp
        refine hK.out _ _ ?_ (fun hHeld => ?_)
        · (first | exact b6 | exact cA.out.cell b6 | exact cB.out.cell b6 | exact cAB.out.cell b6 | exact cBA.out.cell b6 | exact (Chg.setCell _ ⟨g, off + h.seats.length * 8 + 5, none⟩ _).cellNo (cA.out.cell b6) HGN.out | exact (Chg.setCell _ ⟨g, off + h.seats.length * 8 + 5, none⟩ _).cellNo (cAB.out.cell b6) HGN.out | exact (Chg.setCell _ ⟨g, off + h.seats.length * 8 + 5, none⟩ _).cellNo (cBA.out.cell b6) HGN.out | exact ((Chg.alloc (fun _ => False) _ _).cell ((Chg.setCell _ ⟨g, off + h.seats.length * 8 + 5, none⟩ _).cellNo (cA.out.cell b6) HGN.out)))
        clear hK K
        (try simp only [Act.put, List.getElem_toArray, List.getElem_cons_zero, List.getElem_cons_succ, List.setIfInBounds_toArray, List.set_cons_zero, List.set_cons_succ])
        refine wpAnyH_ready (rs := [4]) (by kernel_rfl) (by simp) ?_
        refine AllReadyH.cons (by simp only [List.getElem?_toArray, List.getElem?_cons_succ, List.getElem?_cons_zero]; rfl) (fun K hK => ?_) AllReadyH.nil
        go_simp
        refine hK.out _ _ ?_ (fun hHeld => ?_)
        · (first | exact b6 | exact cA.out.cell b6 | exact cB.out.cell b6 | exact cAB.out.cell b6 | exact cBA.out.cell b6 | exact (Chg.setCell _ ⟨g, off + h.seats.length * 8 + 5, none⟩ _).cellNo (cA.out.cell b6) HGN.out | exact (Chg.setCell _ ⟨g, off + h.seats.length * 8 + 5, none⟩ _).cellNo (cAB.out.cell b6) HGN.out | exact (Chg.setCell _ ⟨g, off + h.seats.length * 8 + 5, none⟩ _).cellNo (cBA.out.cell b6) HGN.out | exact ((Chg.alloc (fun _ => False) _ _).cell ((Chg.setCell _ ⟨g, off + h.seats.length * 8 + 5, none⟩ _).cellNo (cA.out.cell b6) HGN.out)))
        clear hK K
        (try simp only [Act.put, List.getElem_toArray, List.getElem_cons_zero, List.getElem_cons_succ, List.setIfInBounds_toArray, List.set_cons_zero, List.set_cons_succ])
        refine wpAnyH_take (i := 8) (v := ?_) rfl (by kernel_rfl) (by kernel_rfl) (by kernel_rfl) (fun _ _ _ h => h) (Or.inl ⟨by rfl, ?_⟩) (by assumption) ?_
        rotate_left
        · (intro wq hSw; (try dsimp only at hSw); go_simp; (try with_reducible rfl))
        simp only [Act.put, List.getElem_toArray, List.getElem_cons_zero, List.getElem_cons_succ, List.setIfInBounds_toArray, List.set_cons_zero, List.set_cons_succ]
        refine wpAnyH_take (i := 9) (v := ?_) rfl (by kernel_rfl) (by kernel_rfl) (by kernel_rfl) (fun _ _ _ h => h) (Or.inl ⟨by rfl, ?_⟩) (by assumption) ?_
        rotate_left
        · (intro wq hSw; (try dsimp only at hSw); go_simp; (try with_reducible rfl))
        simp only [Act.put, List.getElem_toArray, List.getElem_cons_zero, List.getElem_cons_succ, List.setIfInBounds_toArray, List.set_cons_zero, List.set_cons_succ]
        refine wpAnyH_ready (rs := [10]) (by kernel_rfl) (by simp) ?_
        refine AllReadyH.cons (by simp only [List.getElem?_toArray, List.getElem?_cons_succ, List.getElem?_cons_zero]; rfl) (fun K hK => ?_) AllReadyH.nil
        go_simp
        refine hK.out _ _ ?_ (fun hHeld => ?_)
        · (first | exact b6 | exact cA.out.cell b6 | exact cB.out.cell b6 | exact cAB.out.cell b6 | exact cBA.out.cell b6 | exact (Chg.setCell _ ⟨g, off + h.seats.length * 8 + 5, none⟩ _).cellNo (cA.out.cell b6) HGN.out | exact (Chg.setCell _ ⟨g, off + h.seats.length * 8 + 5, none⟩ _).cellNo (cAB.out.cell b6) HGN.out | exact (Chg.setCell _ ⟨g, off + h.seats.length * 8 + 5, none⟩ _).cellNo (cBA.out.cell b6) HGN.out | exact ((Chg.alloc (fun _ => False) _ _).cell ((Chg.setCell _ ⟨g, off + h.seats.length * 8 + 5, none⟩ _).cellNo (cA.out.cell b6) HGN.out)))
        clear hK K
        (try simp only [Act.put, List.getElem_toArray, List.getElem_cons_zero, List.getElem_cons_succ, List.setIfInBounds_toArray, List.set_cons_zero, List.set_cons_succ])
        refine wpAnyH_done (by kernel_rfl) ?_ _
        change wpList _ _ _ _ _ _
        simp only [List.drop_succ_cons, List.drop_zero]
        have r5 := RowAt.made (wD.alloc (.cells (Array.replicate m.count.toNat (.bool false)) 4)) 9 (.string ⟨#[]⟩) m.count.toNat (by have := HC1.out; unfold maxLen; omega)
        have r6 := (RowAt.made wD 4 (.bool false) m.count.toNat (by have := HC1.out; unfold maxLen; omega)).alloc (.cells (Array.replicate m.count.toNat (.string ⟨#[]⟩)) 9)
        rw [World.size_alloc] at r5
        have hp9 : SeatPost wD g (off + h.seats.length * 8) (recvS y5 m) K8 ((((wD.alloc (.cells (Array.replicate m.count.toNat (.bool false)) 4)).alloc (.cells (Array.replicate m.count.toNat (.string ⟨#[]⟩)) 9)).setCell ⟨g, off + h.seats.length * 8 + 5, none⟩ (.slice (some ⟨(wD.heap.size + 1), 0, none⟩) m.count.toNat m.count.toNat)).setCell ⟨g, off + h.seats.length * 8 + 6, none⟩ (.slice (some ⟨wD.heap.size, 0, none⟩) m.count.toNat m.count.toNat)) :=
          seat_two HS8.out cBA.out (ps := List.replicate m.count.toNat ⟨#[]⟩) (hs := List.replicate m.count.toNat false) (by rw [List.length_replicate, List.map_replicate]; exact r5) (by rw [List.length_replicate, List.map_replicate]; exact r6) (own_at (by omega)) (own_at (by omega)) (own_ne (by omega))
        obtain ⟨K9, H9, S9⟩ := hp9
        obtain ⟨RX9, hv9⟩ := HBK5.out _ _ ⟨K9, H9, HST.out.trans S9⟩
        have z6 := cBA.out.cell e6
        have zf := (HS8.out.still cBA.out).frozen
        have HX9 := Lib.hid RX9
        have HV9 := Lib.hid hv9
        clear r5 r6 H9 S9 RX9 hv9
        go_wp2_with fail
        go_meet
        have hsj : (h.seats ++ [blankSeat m.page])[h.seats.length]'(by simp) = blankSeat m.page := by simp
        have hyb : y5 = blankSeat m.page := HY5.out.symm.trans hsj
        subst hyb
        have hacc : acceptM h m = partM { h with seats := h.seats ++ [recvS (blankSeat m.page) m] } h.seats.length m := by unfold acceptM; rw [HFN.out]
        have h9 := HX9.out
        have hse : ({ h with seats := h.seats ++ [blankSeat m.page] } : Host).seats.set h.seats.length (recvS (blankSeat m.page) m) = h.seats ++ [recvS (blankSeat m.page) m] := by simp
        rw [hse] at h9
        exact ⟨g, off, _, _, h.seats.length, _, (by show _ < (h.seats ++ [_]).length; simp), rfl, h9, HV9.out, hacc, rfl, rfl, by
          have hq : (h.seats ++ [recvS (blankSeat m.page) m])[h.seats.length]'(by simp) = recvS (blankSeat m.page) m := by simp
          show SeatOk ((h.seats ++ [recvS (blankSeat m.page) m])[h.seats.length]'(by simp))
          rw [hq]
          exact recvS_ok _ m HC1.out.2⟩
      exact AllReadyH.nil
    · cases fr with
      | true =>
        have HFR := Lib.hid hfr.symm
        have HFN := Lib.hid hf
        have RX := RXH.out
        clear hf RXH HCASE hfr
        go_upto_region 5 with fail

        obtain ⟨G5, HS5, -, hback5⟩ := RX.seat hv hj
        have HBK5 := Lib.hid hback5
        clear hback5
        obtain ⟨b0, b1, b2, b3, b4, b5, b6, b7⟩ := RX.cells
        have HGN := Lib.hid (RX.apart hv)
        generalize hy5 : h.seats[j] = y5 at *
        have HY5 := Lib.hid hy5
        have HS5h := Lib.hid HS5
        clear hy5 HS5 RX hv
        go_wp2_with fail
        refine (reset_any w1 g (off + j * 8) y5 G5 4 m.epoch HS5h.out).mono ?_
        rintro e w6 ⟨rfl, K6, H6, S6⟩
        have RX6 := (HBK5.out _ _ ⟨K6, H6, S6⟩).1
        clear b0 b1 b2 b3 b4 b5 b6 b7
        obtain ⟨b0, b1, b2, b3, b4, b5, b6, b7⟩ := RX6.cells
        obtain ⟨K7, H7, S7⟩ := H6.setField seatR_peer (y := m.frm) (v := .int .i64 m.frm) rfl
        obtain ⟨K8, H8, S8⟩ := H7.setField seatR_letter (y := ⟨#[]⟩) (v := .string ⟨#[]⟩) rfl
        have RX8 := (HBK5.out _ _ ⟨K8, H8, (S6.trans S7).trans S8⟩).1
        have HS68 := Lib.hid ((S6.trans S7).trans S8)
        obtain ⟨_, _, _, -, -, -, x3, x4, -⟩ := seatCells H6
        have fz := H6.frozen
        have H8h := Lib.hid H8
        have RX8h := Lib.hid RX8
        clear S6 S7 S8 H6 H7 H8 RX6 RX8
        go_upto_region 7 with fail
        clear x3 x4 fz b0 b1 b2 b3 b4 b5 b6 b7
        generalize (w6.setCell ⟨g, off + j * 8 + 3, none⟩ (.int .i64 m.frm)).setCell ⟨g, off + j * 8 + 4, none⟩ (.string ⟨#[]⟩) = w8 at *
        have HST := Lib.hid (HS68.out.drewR)
        have HS8 := Lib.hid H8h.out.drew
        obtain ⟨b0, b1, b2, b3, b4, b5, b6, b7⟩ := (RX8h.out.still ((Chg.refl _ w8).drewR)).cells
        obtain ⟨v5, v6, v7, -, -, -, -, -, e5, e6, -⟩ := seatCells HS8.out
        clear HS68 H8h RX8h b0 b1 b2 b3 b4 b5 b7
        refine wp_region_held_split 11 (fun w' => w'.cell? ⟨w.heap.size, 6, none⟩ = some (.int .i64 m.count)) (by kernel_rfl) (by kernel_rfl) ?_ (fun hHeld => ?_)
        · (first | exact b6 | exact cA.out.cell b6 | exact cB.out.cell b6 | exact cAB.out.cell b6 | exact cBA.out.cell b6 | exact (Chg.setCell _ ⟨g, off + j * 8 + 5, none⟩ _).cellNo (cA.out.cell b6) HGN.out | exact (Chg.setCell _ ⟨g, off + j * 8 + 5, none⟩ _).cellNo (cAB.out.cell b6) HGN.out | exact (Chg.setCell _ ⟨g, off + j * 8 + 5, none⟩ _).cellNo (cBA.out.cell b6) HGN.out | exact ((Chg.alloc (fun _ => False) _ _).cell ((Chg.setCell _ ⟨g, off + j * 8 + 5, none⟩ _).cellNo (cA.out.cell b6) HGN.out)))
        simp only [List.take_succ_cons, List.take_zero]
        generalize w8.drew = wD at *
        have cA := Lib.hid (Chg.alloc (fun _ => False) wD (.cells (Array.replicate m.count.toNat (.string ⟨#[]⟩)) 9))
        have cB := Lib.hid (Chg.alloc (fun _ => False) wD (.cells (Array.replicate m.count.toNat (.bool false)) 4))
        have cAB := Lib.hid (cA.out.allocR (.cells (Array.replicate m.count.toNat (.bool false)) 4))
        have cBA := Lib.hid (cB.out.allocR (.cells (Array.replicate m.count.toNat (.string ⟨#[]⟩)) 9))
        have z5a := cA.out.cell e5
        have z5b := cAB.out.cell e5
        have z5c := cBA.out.cell e5
        have zfa := (HS8.out.still cA.out).frozen
        have zfb := (HS8.out.still cAB.out).frozen
        have zfc := (HS8.out.still cBA.out).frozen
        have hms := fun W => made_strs W m.count (by have := HC1.out; omega) HC1.out.2
        have hmb := fun W => made_bools W m.count (by have := HC1.out; omega) HC1.out.2
        refine wpAnyH_take (i := 0) (v := ?_) rfl (by kernel_rfl) (by kernel_rfl) (by kernel_rfl) (fun _ _ _ h => h) (Or.inl ⟨by rfl, ?_⟩) (by assumption) ?_
        rotate_left
        · (intro wq hSw; (try dsimp only at hSw); go_simp; (try with_reducible rfl))
        simp only [Act.put, List.getElem_toArray, List.getElem_cons_zero, List.getElem_cons_succ, List.setIfInBounds_toArray, List.set_cons_zero, List.set_cons_succ]
        refine wpAnyH_take (i := 1) (v := ?_) rfl (by kernel_rfl) (by kernel_rfl) (by kernel_rfl) (fun _ _ _ h => h) (Or.inl ⟨by rfl, ?_⟩) (by assumption) ?_
        rotate_left
        · (intro wq hSw; (try dsimp only at hSw); go_simp; (try with_reducible rfl))
        simp only [Act.put, List.getElem_toArray, List.getElem_cons_zero, List.getElem_cons_succ, List.setIfInBounds_toArray, List.set_cons_zero, List.set_cons_succ]
        refine wpAnyH_take (i := 2) (v := ?_) rfl (by kernel_rfl) (by kernel_rfl) (by kernel_rfl) (fun _ _ _ h => h) (Or.inl ⟨by rfl, ?_⟩) (by assumption) ?_
        rotate_left
        · (intro wq hSw; (try dsimp only at hSw); go_simp; (try with_reducible rfl))
        simp only [Act.put, List.getElem_toArray, List.getElem_cons_zero, List.getElem_cons_succ, List.setIfInBounds_toArray, List.set_cons_zero, List.set_cons_succ]
        refine wpAnyH_take (i := 3) (v := ?_) rfl (by kernel_rfl) (by kernel_rfl) (by kernel_rfl) (fun _ _ _ h => h) (Or.inl ⟨by rfl, ?_⟩) (by assumption) ?_
        rotate_left
        · (intro wq hSw; (try dsimp only at hSw); go_simp; (try with_reducible rfl))
        simp only [Act.put, List.getElem_toArray, List.getElem_cons_zero, List.getElem_cons_succ, List.setIfInBounds_toArray, List.set_cons_zero, List.set_cons_succ]
        refine wpAnyH_take (i := 5) (v := ?_) rfl (by kernel_rfl) (by kernel_rfl) (by kernel_rfl) (fun _ _ _ h => h) (Or.inl ⟨by rfl, ?_⟩) (by assumption) ?_
        rotate_left
        · (intro wq hSw; (try dsimp only at hSw); go_simp; (try with_reducible rfl))
        simp only [Act.put, List.getElem_toArray, List.getElem_cons_zero, List.getElem_cons_succ, List.setIfInBounds_toArray, List.set_cons_zero, List.set_cons_succ]
        refine wpAnyH_take (i := 6) (v := ?_) rfl (by kernel_rfl) (by kernel_rfl) (by kernel_rfl) (fun _ _ _ h => h) (Or.inl ⟨by rfl, ?_⟩) (by assumption) ?_
        rotate_left
        · (intro wq hSw; (try dsimp only at hSw); go_simp; (try with_reducible rfl))
        simp only [Act.put, List.getElem_toArray, List.getElem_cons_zero, List.getElem_cons_succ, List.setIfInBounds_toArray, List.set_cons_zero, List.set_cons_succ]
        refine wpAnyH_ready (rs := [4, 7]) (by kernel_rfl) (by simp) ?_
        refine AllReadyH.cons (by simp only [List.getElem?_toArray, List.getElem?_cons_succ, List.getElem?_cons_zero]; rfl) (fun K hK => ?_) ?_
        · go_simp
          refine hK.out _ _ ?_ (fun hHeld => ?_)
          · (first | exact b6 | exact cA.out.cell b6 | exact cB.out.cell b6 | exact cAB.out.cell b6 | exact cBA.out.cell b6 | exact (Chg.setCell _ ⟨g, off + j * 8 + 5, none⟩ _).cellNo (cA.out.cell b6) HGN.out | exact (Chg.setCell _ ⟨g, off + j * 8 + 5, none⟩ _).cellNo (cAB.out.cell b6) HGN.out | exact (Chg.setCell _ ⟨g, off + j * 8 + 5, none⟩ _).cellNo (cBA.out.cell b6) HGN.out | exact ((Chg.alloc (fun _ => False) _ _).cell ((Chg.setCell _ ⟨g, off + j * 8 + 5, none⟩ _).cellNo (cA.out.cell b6) HGN.out)))
          clear hK K
          (try simp only [Act.put, List.getElem_toArray, List.getElem_cons_zero, List.getElem_cons_succ, List.setIfInBounds_toArray, List.set_cons_zero, List.set_cons_succ])
          refine wpAnyH_take (i := 8) (v := ?_) rfl (by kernel_rfl) (by kernel_rfl) (by kernel_rfl) (fun _ _ _ h => h) (Or.inl ⟨by rfl, ?_⟩) (by assumption) ?_
          rotate_left
          · (intro wq hSw; (try dsimp only at hSw); go_simp; (try with_reducible rfl))
          simp only [Act.put, List.getElem_toArray, List.getElem_cons_zero, List.getElem_cons_succ, List.setIfInBounds_toArray, List.set_cons_zero, List.set_cons_succ]
          refine wpAnyH_take (i := 9) (v := ?_) rfl (by kernel_rfl) (by kernel_rfl) (by kernel_rfl) (fun _ _ _ h => h) (Or.inl ⟨by rfl, ?_⟩) (by assumption) ?_
          rotate_left
          · (intro wq hSw; (try dsimp only at hSw); go_simp; (try with_reducible rfl))
          simp only [Act.put, List.getElem_toArray, List.getElem_cons_zero, List.getElem_cons_succ, List.setIfInBounds_toArray, List.set_cons_zero, List.set_cons_succ]
          refine wpAnyH_ready (rs := [7, 10]) (by kernel_rfl) (by simp) ?_
          refine AllReadyH.cons (by simp only [List.getElem?_toArray, List.getElem?_cons_succ, List.getElem?_cons_zero]; rfl) (fun K hK => ?_) ?_
          · go_simp
            refine hK.out _ _ ?_ (fun hHeld => ?_)
            · (first | exact b6 | exact cA.out.cell b6 | exact cB.out.cell b6 | exact cAB.out.cell b6 | exact cBA.out.cell b6 | exact (Chg.setCell _ ⟨g, off + j * 8 + 5, none⟩ _).cellNo (cA.out.cell b6) HGN.out | exact (Chg.setCell _ ⟨g, off + j * 8 + 5, none⟩ _).cellNo (cAB.out.cell b6) HGN.out | exact (Chg.setCell _ ⟨g, off + j * 8 + 5, none⟩ _).cellNo (cBA.out.cell b6) HGN.out | exact ((Chg.alloc (fun _ => False) _ _).cell ((Chg.setCell _ ⟨g, off + j * 8 + 5, none⟩ _).cellNo (cA.out.cell b6) HGN.out)))
            clear hK K
            (try simp only [Act.put, List.getElem_toArray, List.getElem_cons_zero, List.getElem_cons_succ, List.setIfInBounds_toArray, List.set_cons_zero, List.set_cons_succ])
            refine wpAnyH_ready (rs := [10]) (by kernel_rfl) (by simp) ?_
            refine AllReadyH.cons (by simp only [List.getElem?_toArray, List.getElem?_cons_succ, List.getElem?_cons_zero]; rfl) (fun K hK => ?_) AllReadyH.nil
            go_simp
            refine hK.out _ _ ?_ (fun hHeld => ?_)
            · (first | exact b6 | exact cA.out.cell b6 | exact cB.out.cell b6 | exact cAB.out.cell b6 | exact cBA.out.cell b6 | exact (Chg.setCell _ ⟨g, off + j * 8 + 5, none⟩ _).cellNo (cA.out.cell b6) HGN.out | exact (Chg.setCell _ ⟨g, off + j * 8 + 5, none⟩ _).cellNo (cAB.out.cell b6) HGN.out | exact (Chg.setCell _ ⟨g, off + j * 8 + 5, none⟩ _).cellNo (cBA.out.cell b6) HGN.out | exact ((Chg.alloc (fun _ => False) _ _).cell ((Chg.setCell _ ⟨g, off + j * 8 + 5, none⟩ _).cellNo (cA.out.cell b6) HGN.out)))
            clear hK K
            (try simp only [Act.put, List.getElem_toArray, List.getElem_cons_zero, List.getElem_cons_succ, List.setIfInBounds_toArray, List.set_cons_zero, List.set_cons_succ])
            refine wpAnyH_done (by kernel_rfl) ?_ _
            change wpList _ _ _ _ _ _
            simp only [List.drop_succ_cons, List.drop_zero]
            have r5 := (RowAt.made wD 9 (.string ⟨#[]⟩) m.count.toNat (by have := HC1.out; unfold maxLen; omega)).alloc (.cells (Array.replicate m.count.toNat (.bool false)) 4)
            have r6 := RowAt.made (wD.alloc (.cells (Array.replicate m.count.toNat (.string ⟨#[]⟩)) 9)) 4 (.bool false) m.count.toNat (by have := HC1.out; unfold maxLen; omega)
            rw [World.size_alloc] at r6
            have hp9 : SeatPost wD g (off + j * 8) (recvS y5 m) K8 ((((wD.alloc (.cells (Array.replicate m.count.toNat (.string ⟨#[]⟩)) 9)).alloc (.cells (Array.replicate m.count.toNat (.bool false)) 4)).setCell ⟨g, off + j * 8 + 5, none⟩ (.slice (some ⟨wD.heap.size, 0, none⟩) m.count.toNat m.count.toNat)).setCell ⟨g, off + j * 8 + 6, none⟩ (.slice (some ⟨(wD.heap.size + 1), 0, none⟩) m.count.toNat m.count.toNat)) :=
              seat_two HS8.out cAB.out (ps := List.replicate m.count.toNat ⟨#[]⟩) (hs := List.replicate m.count.toNat false) (by rw [List.length_replicate, List.map_replicate]; exact r5) (by rw [List.length_replicate, List.map_replicate]; exact r6) (own_at (by omega)) (own_at (by omega)) (own_ne (by omega))
            obtain ⟨K9, H9, S9⟩ := hp9
            obtain ⟨RX9, hv9⟩ := HBK5.out _ _ ⟨K9, H9, HST.out.trans S9⟩
            have z6 := cAB.out.cell e6
            have zf := (HS8.out.still cAB.out).frozen
            have HX9 := Lib.hid RX9
            have HV9 := Lib.hid hv9
            clear r5 r6 H9 S9 RX9 hv9
            go_wp2_with fail
            go_meet
            have hyb : y5 = h.seats[j] := HY5.out.symm
            subst hyb
            have hacc : acceptM h m = partM { h with seats := h.seats.set j (recvS h.seats[j] m) } j m := by
              unfold acceptM; rw [HFN.out]; simp only [getS hj, HFR.out, if_pos]
            have hq : (h.seats.set j (recvS h.seats[j] m))[j]'(by simpa using hj) = recvS h.seats[j] m := by simp
            exact ⟨g, off, _, _, j, _, (by simpa using hj), rfl, HX9.out, HV9.out, hacc, rfl, rfl, by
              show SeatOk ((h.seats.set j (recvS h.seats[j] m))[j]'(by simpa using hj))
              rw [hq]
              exact recvS_ok _ m HC1.out.2⟩
          refine AllReadyH.cons (by simp only [List.getElem?_toArray, List.getElem?_cons_succ, List.getElem?_cons_zero]; rfl) (fun K hK => ?_) ?_
          · go_simp
            refine hK.out _ _ ?_ (fun hHeld => ?_)
            · (first | exact b6 | exact cA.out.cell b6 | exact cB.out.cell b6 | exact cAB.out.cell b6 | exact cBA.out.cell b6 | exact (Chg.setCell _ ⟨g, off + j * 8 + 5, none⟩ _).cellNo (cA.out.cell b6) HGN.out | exact (Chg.setCell _ ⟨g, off + j * 8 + 5, none⟩ _).cellNo (cAB.out.cell b6) HGN.out | exact (Chg.setCell _ ⟨g, off + j * 8 + 5, none⟩ _).cellNo (cBA.out.cell b6) HGN.out | exact ((Chg.alloc (fun _ => False) _ _).cell ((Chg.setCell _ ⟨g, off + j * 8 + 5, none⟩ _).cellNo (cA.out.cell b6) HGN.out)))
            clear hK K
            (try simp only [Act.put, List.getElem_toArray, List.getElem_cons_zero, List.getElem_cons_succ, List.setIfInBounds_toArray, List.set_cons_zero, List.set_cons_succ])
            refine wpAnyH_ready (rs := [7]) (by kernel_rfl) (by simp) ?_
            refine AllReadyH.cons (by simp only [List.getElem?_toArray, List.getElem?_cons_succ, List.getElem?_cons_zero]; rfl) (fun K hK => ?_) AllReadyH.nil
            go_simp
            refine hK.out _ _ ?_ (fun hHeld => ?_)
            · (first | exact b6 | exact cA.out.cell b6 | exact cB.out.cell b6 | exact cAB.out.cell b6 | exact cBA.out.cell b6 | exact (Chg.setCell _ ⟨g, off + j * 8 + 5, none⟩ _).cellNo (cA.out.cell b6) HGN.out | exact (Chg.setCell _ ⟨g, off + j * 8 + 5, none⟩ _).cellNo (cAB.out.cell b6) HGN.out | exact (Chg.setCell _ ⟨g, off + j * 8 + 5, none⟩ _).cellNo (cBA.out.cell b6) HGN.out | exact ((Chg.alloc (fun _ => False) _ _).cell ((Chg.setCell _ ⟨g, off + j * 8 + 5, none⟩ _).cellNo (cA.out.cell b6) HGN.out)))
            clear hK K
            (try simp only [Act.put, List.getElem_toArray, List.getElem_cons_zero, List.getElem_cons_succ, List.setIfInBounds_toArray, List.set_cons_zero, List.set_cons_succ])
            refine wpAnyH_done (by kernel_rfl) ?_ _
            change wpList _ _ _ _ _ _
            simp only [List.drop_succ_cons, List.drop_zero]
            rw [← World.setCell_alloc_past (w := wD.alloc (.cells (Array.replicate m.count.toNat (.string ⟨#[]⟩)) 9)) _ g _ _ (by rw [World.size_alloc]; have := HS8.out.lt.1; omega)]
            have r5 := (RowAt.made wD 9 (.string ⟨#[]⟩) m.count.toNat (by have := HC1.out; unfold maxLen; omega)).alloc (.cells (Array.replicate m.count.toNat (.bool false)) 4)
            have r6 := RowAt.made (wD.alloc (.cells (Array.replicate m.count.toNat (.string ⟨#[]⟩)) 9)) 4 (.bool false) m.count.toNat (by have := HC1.out; unfold maxLen; omega)
            rw [World.size_alloc] at r6
            have hp9 : SeatPost wD g (off + j * 8) (recvS y5 m) K8 ((((wD.alloc (.cells (Array.replicate m.count.toNat (.string ⟨#[]⟩)) 9)).alloc (.cells (Array.replicate m.count.toNat (.bool false)) 4)).setCell ⟨g, off + j * 8 + 5, none⟩ (.slice (some ⟨wD.heap.size, 0, none⟩) m.count.toNat m.count.toNat)).setCell ⟨g, off + j * 8 + 6, none⟩ (.slice (some ⟨(wD.heap.size + 1), 0, none⟩) m.count.toNat m.count.toNat)) :=
              seat_two HS8.out cAB.out (ps := List.replicate m.count.toNat ⟨#[]⟩) (hs := List.replicate m.count.toNat false) (by rw [List.length_replicate, List.map_replicate]; exact r5) (by rw [List.length_replicate, List.map_replicate]; exact r6) (own_at (by omega)) (own_at (by omega)) (own_ne (by omega))
            obtain ⟨K9, H9, S9⟩ := hp9
            obtain ⟨RX9, hv9⟩ := HBK5.out _ _ ⟨K9, H9, HST.out.trans S9⟩
            have z6 := cAB.out.cell e6
            have zf := (HS8.out.still cAB.out).frozen
            have HX9 := Lib.hid RX9
            have HV9 := Lib.hid hv9
            clear r5 r6 H9 S9 RX9 hv9
            go_wp2_with fail
            go_meet
            have hyb : y5 = h.seats[j] := HY5.out.symm
            subst hyb
            have hacc : acceptM h m = partM { h with seats := h.seats.set j (recvS h.seats[j] m) } j m := by
              unfold acceptM; rw [HFN.out]; simp only [getS hj, HFR.out, if_pos]
            have hq : (h.seats.set j (recvS h.seats[j] m))[j]'(by simpa using hj) = recvS h.seats[j] m := by simp
            exact ⟨g, off, _, _, j, _, (by simpa using hj), rfl, HX9.out, HV9.out, hacc, rfl, rfl, by
              show SeatOk ((h.seats.set j (recvS h.seats[j] m))[j]'(by simpa using hj))
              rw [hq]
              exact recvS_ok _ m HC1.out.2⟩
          exact AllReadyH.nil
        refine AllReadyH.cons (by simp only [List.getElem?_toArray, List.getElem?_cons_succ, List.getElem?_cons_zero]; rfl) (fun K hK => ?_) ?_
        · go_simp
          refine hK.out _ _ ?_ (fun hHeld => ?_)
          · (first | exact b6 | exact cA.out.cell b6 | exact cB.out.cell b6 | exact cAB.out.cell b6 | exact cBA.out.cell b6 | exact (Chg.setCell _ ⟨g, off + j * 8 + 5, none⟩ _).cellNo (cA.out.cell b6) HGN.out | exact (Chg.setCell _ ⟨g, off + j * 8 + 5, none⟩ _).cellNo (cAB.out.cell b6) HGN.out | exact (Chg.setCell _ ⟨g, off + j * 8 + 5, none⟩ _).cellNo (cBA.out.cell b6) HGN.out | exact ((Chg.alloc (fun _ => False) _ _).cell ((Chg.setCell _ ⟨g, off + j * 8 + 5, none⟩ _).cellNo (cA.out.cell b6) HGN.out)))
          clear hK K
          (try simp only [Act.put, List.getElem_toArray, List.getElem_cons_zero, List.getElem_cons_succ, List.setIfInBounds_toArray, List.set_cons_zero, List.set_cons_succ])
          refine wpAnyH_ready (rs := [4]) (by kernel_rfl) (by simp) ?_
          refine AllReadyH.cons (by simp only [List.getElem?_toArray, List.getElem?_cons_succ, List.getElem?_cons_zero]; rfl) (fun K hK => ?_) AllReadyH.nil
          go_simp
          refine hK.out _ _ ?_ (fun hHeld => ?_)
          · (first | exact b6 | exact cA.out.cell b6 | exact cB.out.cell b6 | exact cAB.out.cell b6 | exact cBA.out.cell b6 | exact (Chg.setCell _ ⟨g, off + j * 8 + 5, none⟩ _).cellNo (cA.out.cell b6) HGN.out | exact (Chg.setCell _ ⟨g, off + j * 8 + 5, none⟩ _).cellNo (cAB.out.cell b6) HGN.out | exact (Chg.setCell _ ⟨g, off + j * 8 + 5, none⟩ _).cellNo (cBA.out.cell b6) HGN.out | exact ((Chg.alloc (fun _ => False) _ _).cell ((Chg.setCell _ ⟨g, off + j * 8 + 5, none⟩ _).cellNo (cA.out.cell b6) HGN.out)))
          clear hK K
          (try simp only [Act.put, List.getElem_toArray, List.getElem_cons_zero, List.getElem_cons_succ, List.setIfInBounds_toArray, List.set_cons_zero, List.set_cons_succ])
          refine wpAnyH_take (i := 8) (v := ?_) rfl (by kernel_rfl) (by kernel_rfl) (by kernel_rfl) (fun _ _ _ h => h) (Or.inl ⟨by rfl, ?_⟩) (by assumption) ?_
          rotate_left
          · (intro wq hSw; (try dsimp only at hSw); go_simp; (try with_reducible rfl))
          simp only [Act.put, List.getElem_toArray, List.getElem_cons_zero, List.getElem_cons_succ, List.setIfInBounds_toArray, List.set_cons_zero, List.set_cons_succ]
          refine wpAnyH_take (i := 9) (v := ?_) rfl (by kernel_rfl) (by kernel_rfl) (by kernel_rfl) (fun _ _ _ h => h) (Or.inl ⟨by rfl, ?_⟩) (by assumption) ?_
          rotate_left
          · (intro wq hSw; (try dsimp only at hSw); go_simp; (try with_reducible rfl))
          simp only [Act.put, List.getElem_toArray, List.getElem_cons_zero, List.getElem_cons_succ, List.setIfInBounds_toArray, List.set_cons_zero, List.set_cons_succ]
          refine wpAnyH_ready (rs := [10]) (by kernel_rfl) (by simp) ?_
          refine AllReadyH.cons (by simp only [List.getElem?_toArray, List.getElem?_cons_succ, List.getElem?_cons_zero]; rfl) (fun K hK => ?_) AllReadyH.nil
          go_simp
          refine hK.out _ _ ?_ (fun hHeld => ?_)
          · (first | exact b6 | exact cA.out.cell b6 | exact cB.out.cell b6 | exact cAB.out.cell b6 | exact cBA.out.cell b6 | exact (Chg.setCell _ ⟨g, off + j * 8 + 5, none⟩ _).cellNo (cA.out.cell b6) HGN.out | exact (Chg.setCell _ ⟨g, off + j * 8 + 5, none⟩ _).cellNo (cAB.out.cell b6) HGN.out | exact (Chg.setCell _ ⟨g, off + j * 8 + 5, none⟩ _).cellNo (cBA.out.cell b6) HGN.out | exact ((Chg.alloc (fun _ => False) _ _).cell ((Chg.setCell _ ⟨g, off + j * 8 + 5, none⟩ _).cellNo (cA.out.cell b6) HGN.out)))
          clear hK K
          (try simp only [Act.put, List.getElem_toArray, List.getElem_cons_zero, List.getElem_cons_succ, List.setIfInBounds_toArray, List.set_cons_zero, List.set_cons_succ])
          refine wpAnyH_done (by kernel_rfl) ?_ _
          change wpList _ _ _ _ _ _
          simp only [List.drop_succ_cons, List.drop_zero]
          have r5 := RowAt.made (wD.alloc (.cells (Array.replicate m.count.toNat (.bool false)) 4)) 9 (.string ⟨#[]⟩) m.count.toNat (by have := HC1.out; unfold maxLen; omega)
          have r6 := (RowAt.made wD 4 (.bool false) m.count.toNat (by have := HC1.out; unfold maxLen; omega)).alloc (.cells (Array.replicate m.count.toNat (.string ⟨#[]⟩)) 9)
          rw [World.size_alloc] at r5
          have hp9 : SeatPost wD g (off + j * 8) (recvS y5 m) K8 ((((wD.alloc (.cells (Array.replicate m.count.toNat (.bool false)) 4)).alloc (.cells (Array.replicate m.count.toNat (.string ⟨#[]⟩)) 9)).setCell ⟨g, off + j * 8 + 5, none⟩ (.slice (some ⟨(wD.heap.size + 1), 0, none⟩) m.count.toNat m.count.toNat)).setCell ⟨g, off + j * 8 + 6, none⟩ (.slice (some ⟨wD.heap.size, 0, none⟩) m.count.toNat m.count.toNat)) :=
            seat_two HS8.out cBA.out (ps := List.replicate m.count.toNat ⟨#[]⟩) (hs := List.replicate m.count.toNat false) (by rw [List.length_replicate, List.map_replicate]; exact r5) (by rw [List.length_replicate, List.map_replicate]; exact r6) (own_at (by omega)) (own_at (by omega)) (own_ne (by omega))
          obtain ⟨K9, H9, S9⟩ := hp9
          obtain ⟨RX9, hv9⟩ := HBK5.out _ _ ⟨K9, H9, HST.out.trans S9⟩
          have z6 := cBA.out.cell e6
          have zf := (HS8.out.still cBA.out).frozen
          have HX9 := Lib.hid RX9
          have HV9 := Lib.hid hv9
          clear r5 r6 H9 S9 RX9 hv9
          go_wp2_with fail
          go_meet
          have hyb : y5 = h.seats[j] := HY5.out.symm
          subst hyb
          have hacc : acceptM h m = partM { h with seats := h.seats.set j (recvS h.seats[j] m) } j m := by
            unfold acceptM; rw [HFN.out]; simp only [getS hj, HFR.out, if_pos]
          have hq : (h.seats.set j (recvS h.seats[j] m))[j]'(by simpa using hj) = recvS h.seats[j] m := by simp
          exact ⟨g, off, _, _, j, _, (by simpa using hj), rfl, HX9.out, HV9.out, hacc, rfl, rfl, by
            show SeatOk ((h.seats.set j (recvS h.seats[j] m))[j]'(by simpa using hj))
            rw [hq]
            exact recvS_ok _ m HC1.out.2⟩
        exact AllReadyH.nil
      | false =>
        have HFR := Lib.hid hfr.symm
        have HFN := Lib.hid hf
        have HV := Lib.hid hv
        clear hf hv hfr HCASE
        go_wp2_with fail
        go_meet
        have hacc : acceptM h m = partM h j m := by
          unfold acceptM; rw [HFN.out]; simp only [getS hj, HFR.out]; simp
        exact ⟨g, off, _, _, j, h, hj, rfl, RXH.out, HV.out, hacc, rfl, rfl, HOK.out _ (List.getElem_mem hj)⟩
  case rest =>
    obtain ⟨g, off, n, cap, j, h1, hj, rfl, RX, hv, hacc, hout, hid, hok⟩ := hcut
    clear HCASE RXH
    go_upto_region 8 with fail
    obtain ⟨G8, HS8, hnb8, hback8⟩ := RX.seat hv hj
    have hgd : h1.seats.getD j (blankSeat m.page) = h1.seats[j] := getS hj
    have HFM := Lib.hid (fun x : Later wc => from_any x.at_ g (off + j * 8) h1.seats[j] G8 m (HS8.still x.chg))
    obtain ⟨v5, v6, v7, s0, s1, s2, s3, s4, s5, s6, s7, F5, F6, F7, h5, h6, h7, -⟩ := seatCells HS8
    obtain ⟨p5, k5, rfl, -, -, -⟩ := seen_flat h5
    have hseen6 := seen_flat h6
    obtain ⟨p6, k6, rfl, -, -, -⟩ := id hseen6
    rw [List.length_map] at s5 s6 hseen6
    obtain ⟨b0, b1, b2, b3, b4, b5, b6, b7⟩ := RX.cells
    have l5 := Later.cell s5
    have l6 := Later.cell s6
    have m0 := Later.cell b0
    have m1 := Later.cell b1
    have m2 := Later.cell b2
    have m3 := Later.cell b3
    have m4 := Later.cell b4
    have m5 := Later.cell b5
    have m6 := Later.cell b6
    have m7 := Later.cell b7
    have hln5 : (h1.seats[j].parts.length : Int) ≤ 9223372036854775807 := by have := hok.few; omega
    have RXH := Lib.hid RX
    have HACC := Lib.hid hacc
    have HOKJ := Lib.hid hok
    have HGD := Lib.hid hgd
    have HSE := Lib.hid hseen6
    have HOUT := Lib.hid hout
    have HV := Lib.hid hv
    clear RX hacc hok hgd hseen6 hout hid s0 s1 s2 s3 s4 s5 s6 s7 h5 h6 h7 b0 b1 b2 b3 b4 b5 b6 b7 hback8 HS8 hnb8 hv
    unfold Msg.cells at HFM
    have fin : ∀ (x : Later wc), partB h1.seats[j] m = false → HostPost w b o (acceptM h m) F x.at_ := fun x hp => by
      rw [HACC.out]
      have : partM h1 j m = h1 := by unfold partM; rw [HGD.out, hp]; simp
      rw [this]
      exact (RXH.out.still x.chg).post
    have FIN := Lib.hid fin
    clear fin
    by_cases k1 : m.kind = 2
    · have q1 : (m.kind != 2) = false := by simpa using k1
      cases k2 : fromB h1.seats[j] m with
      | false =>
        rw [k2] at HFM
        have HP : Hid (partB h1.seats[j] m = false) := Lib.hid (by unfold partB; rw [k2]; simp)
        clear k1 k2
        refine wp_region_later (by kernel_rfl) (by kernel_rfl) ?_
        repeat (go_big_quiet_step ((go_at_call 71; exact Later.call (HFM.out _))))
        refine wpQuiet_nil ?_
        rintro _ ⟨x, rfl⟩
        go_wp2_with fail
        refine bodyPost_ret (results_none rfl _ _ _) rfl ?_
        exact ⟨rfl, FIN.out x HP.out⟩
      | true =>
        rw [k2] at HFM
        by_cases k3 : (h1.seats[j].parts.length : Int) = m.count
        · have q3 : ((h1.seats[j].parts.length : Int) != m.count) = false := by simpa using k3
          have hil : m.index.toNat < h1.seats[j].have_.length := by have := HI.out.2 k1; have := HI.out.1; have := HOKJ.out.same; omega
          have hi0 : 0 ≤ m.index := HI.out.1
          have hi1 : m.index < (h1.seats[j].have_.length : Int) := by omega
          obtain ⟨g6, o6, rfl, c6⟩ := HSE.out.ptr (.refl _ _) (k := m.index.toNat) (u := .bool h1.seats[j].have_[m.index.toNat]) (by simp [hil])
          have l8 := Later.cell c6
          cases k4 : h1.seats[j].have_[m.index.toNat] with
          | true =>
            rw [k4] at l8
            have HP : Hid (partB h1.seats[j] m = false) := Lib.hid (by unfold partB; simp [List.getD_eq_getElem?_getD, hil, k4])
            clear k1 k2 k3 k4 hil c6
            refine wp_region_later (by kernel_rfl) (by kernel_rfl) ?_
            repeat (go_big_quiet_step ((go_at_call 71; exact Later.call (HFM.out _))))
            refine wpQuiet_nil ?_
            rintro _ ⟨x, rfl⟩
            go_wp2_with fail
            refine bodyPost_ret (results_none rfl _ _ _) rfl ?_
            exact ⟨rfl, FIN.out x HP.out⟩
          | false =>
            rw [k4] at l8
            have HP : Hid (partB h1.seats[j] m = true) := Lib.hid (by unfold partB; rw [k2, k1]; simp [List.getD_eq_getElem?_getD, hil, k4, k3])
            have HIL := Lib.hid hil
            clear k1 k2 k3 k4 hil c6 FIN
            refine wp_region_later (by kernel_rfl) (by kernel_rfl) ?_
            repeat (go_big_quiet_step ((go_at_call 71; exact Later.call (HFM.out _))))
            refine wpQuiet_nil ?_
            rintro _ ⟨x, rfl⟩
            have RX := RXH.out.still x.chg
            have hv := x.chg.cell HV.out
            clear HFM l5 l6 l8 m0 m1 m2 m3 m4 m5 m6 m7 RXH HV HSE
            generalize x.at_ = wf at *
            go_upto_region 9 with fail
            have RXd := RX.still ((Chg.refl _ wf).drewR)
            have hvd := (Chg.refl (fun _ => False) wf).drewR.cell hv
            obtain ⟨G9, HS9, -, hback9⟩ := RXd.seat hvd hj
            have HBK9 := Lib.hid hback9
            clear hback9
            have HGN := Lib.hid (RXd.apart hvd)
            have hi5 : m.index.toNat < h1.seats[j].parts.length := by have := HOKJ.out.same; have := HIL.out; omega
            obtain ⟨g5, o5, c5, g6', o6', c6', a5, a6, a7, a8, hp1, z5, z6, z7, z8, hp2⟩ := got_step HS9 m.index.toNat hi5 HIL.out m.data
            obtain ⟨RX1, -⟩ := HBK9.out _ _ hp1
            obtain ⟨-, -, -, -, y4, y5', -, y7⟩ := RX1.cells
            obtain ⟨-, -, -, -, b4, b5, -, b7⟩ := RXd.cells
            have hi2 : m.index < (h1.seats[j].parts.length : Int) := by omega
            have HPF := Lib.hid hp2
            have HPQ := Lib.hid hi5
            clear hp1 hp2 RX1 RXd hvd RX hv y4
            generalize hq5 : h1.seats[j].parts[m.index.toNat] = qe at *
            clear hq5 hi5
            generalize hy9 : h1.seats[j] = y9 at *
            have HY9 := Lib.hid hy9
            have HP9 : Hid (partB y9 m = true) := HP
            clear hy9
            refine wp_region_held_split 16 (fun w' => w'.cell? ⟨g, off + j * 8 + 5, none⟩ = some (.slice (some ⟨g5, o5, none⟩) y9.parts.length c5) ∧ w'.cell? ⟨g, off + j * 8 + 6, none⟩ = some (.slice (some ⟨g6', o6', none⟩) y9.have_.length c6') ∧ w'.cell? ⟨w.heap.size, 5, none⟩ = some (.int .i64 m.index) ∧ w'.cell? ⟨w.heap.size, 7, none⟩ = some (.string m.data)) (by kernel_rfl) (by kernel_rfl) ?_ (fun hHeld => ?_)
            · (first | exact ⟨a5, a6, b5, b7⟩ | exact ⟨z5, z6, y5', y7⟩)
            simp only [List.take_succ_cons, List.take_zero]
            generalize wf.drew = wD at *
            refine wpAnyH_take (i := 0) (v := ?_) rfl (by kernel_rfl) (by kernel_rfl) (by kernel_rfl) (fun _ _ _ h => h) (Or.inl ⟨by rfl, ?_⟩) (by assumption) ?_
            rotate_left
            · (intro wq hSw; (try dsimp only at hSw); go_simp; (try with_reducible rfl))
            simp only [Act.put, List.getElem_toArray, List.getElem_cons_zero, List.getElem_cons_succ, List.setIfInBounds_toArray, List.set_cons_zero, List.set_cons_succ]
            refine wpAnyH_take (i := 1) (v := ?_) rfl (by kernel_rfl) (by kernel_rfl) (by kernel_rfl) (fun _ _ _ h => h) (Or.inl ⟨by rfl, ?_⟩) (by assumption) ?_
            rotate_left
            · (intro wq hSw; (try dsimp only at hSw); go_simp; (try with_reducible rfl))
            simp only [Act.put, List.getElem_toArray, List.getElem_cons_zero, List.getElem_cons_succ, List.setIfInBounds_toArray, List.set_cons_zero, List.set_cons_succ]
            refine wpAnyH_take (i := 2) (v := ?_) rfl (by kernel_rfl) (by kernel_rfl) (by kernel_rfl) (fun _ _ _ h => h) (Or.inl ⟨by rfl, ?_⟩) (by assumption) ?_
            rotate_left
            · (intro wq hSw; (try dsimp only at hSw); go_simp; (try with_reducible rfl))
            simp only [Act.put, List.getElem_toArray, List.getElem_cons_zero, List.getElem_cons_succ, List.setIfInBounds_toArray, List.set_cons_zero, List.set_cons_succ]
            refine wpAnyH_take (i := 3) (v := ?_) rfl (by kernel_rfl) (by kernel_rfl) (by kernel_rfl) (fun _ _ _ h => h) (Or.inl ⟨by rfl, ?_⟩) (by assumption) ?_
            rotate_left
            · (intro wq hSw; (try dsimp only at hSw); go_simp; (try with_reducible rfl))
            simp only [Act.put, List.getElem_toArray, List.getElem_cons_zero, List.getElem_cons_succ, List.setIfInBounds_toArray, List.set_cons_zero, List.set_cons_succ]
            refine wpAnyH_take (i := 4) (v := ?_) rfl (by kernel_rfl) (by kernel_rfl) (by kernel_rfl) (fun _ _ _ h => h) (Or.inl ⟨by rfl, ?_⟩) (by assumption) ?_
            rotate_left
            · (intro wq hSw; (try dsimp only at hSw); go_simp; (try with_reducible rfl))
            simp only [Act.put, List.getElem_toArray, List.getElem_cons_zero, List.getElem_cons_succ, List.setIfInBounds_toArray, List.set_cons_zero, List.set_cons_succ]
            refine wpAnyH_take (i := 5) (v := ?_) rfl (by kernel_rfl) (by kernel_rfl) (by kernel_rfl) (fun _ _ _ h => h) (Or.inl ⟨by rfl, ?_⟩) (by assumption) ?_
            rotate_left
            · (intro wq hSw; (try dsimp only at hSw); go_simp; (try with_reducible rfl))
            simp only [Act.put, List.getElem_toArray, List.getElem_cons_zero, List.getElem_cons_succ, List.setIfInBounds_toArray, List.set_cons_zero, List.set_cons_succ]
            refine wpAnyH_take (i := 6) (v := ?_) rfl (by kernel_rfl) (by kernel_rfl) (by kernel_rfl) (fun _ _ _ h => h) (Or.inl ⟨by rfl, ?_⟩) (by assumption) ?_
            rotate_left
            · (intro wq hSw; (try dsimp only at hSw); go_simp; (try with_reducible rfl))
            simp only [Act.put, List.getElem_toArray, List.getElem_cons_zero, List.getElem_cons_succ, List.setIfInBounds_toArray, List.set_cons_zero, List.set_cons_succ]
            refine wpAnyH_take (i := 7) (v := ?_) rfl (by kernel_rfl) (by kernel_rfl) (by kernel_rfl) (fun _ _ _ h => h) (Or.inl ⟨by rfl, ?_⟩) (by assumption) ?_
            rotate_left
            · (intro wq hSw; (try dsimp only at hSw); go_simp; (try with_reducible rfl))
            simp only [Act.put, List.getElem_toArray, List.getElem_cons_zero, List.getElem_cons_succ, List.setIfInBounds_toArray, List.set_cons_zero, List.set_cons_succ]
            refine wpAnyH_take (i := 8) (v := ?_) rfl (by kernel_rfl) (by kernel_rfl) (by kernel_rfl) (fun _ _ _ h => h) (Or.inl ⟨by rfl, ?_⟩) (by assumption) ?_
            rotate_left
            · (intro wq hSw; (try dsimp only at hSw); go_simp; (try with_reducible rfl))
            simp only [Act.put, List.getElem_toArray, List.getElem_cons_zero, List.getElem_cons_succ, List.setIfInBounds_toArray, List.set_cons_zero, List.set_cons_succ]
            refine wpAnyH_take (i := 9) (v := ?_) rfl (by kernel_rfl) (by kernel_rfl) (by kernel_rfl) (fun _ _ _ h => h) (Or.inl ⟨by rfl, ?_⟩) (by assumption) ?_
            rotate_left
            · (intro wq hSw; (try dsimp only at hSw); go_simp; (try with_reducible rfl))
            simp only [Act.put, List.getElem_toArray, List.getElem_cons_zero, List.getElem_cons_succ, List.setIfInBounds_toArray, List.set_cons_zero, List.set_cons_succ]
            refine wpAnyH_take (i := 10) (v := ?_) rfl (by kernel_rfl) (by kernel_rfl) (by kernel_rfl) (fun _ _ _ h => h) (Or.inl ⟨by rfl, ?_⟩) (by assumption) ?_
            rotate_left
            · (intro wq hSw; (try dsimp only at hSw); go_simp; (try with_reducible rfl))
            simp only [Act.put, List.getElem_toArray, List.getElem_cons_zero, List.getElem_cons_succ, List.setIfInBounds_toArray, List.set_cons_zero, List.set_cons_succ]
            refine wpAnyH_take (i := 11) (v := ?_) rfl (by kernel_rfl) (by kernel_rfl) (by kernel_rfl) (fun _ _ _ h => h) (Or.inl ⟨by rfl, ?_⟩) (by assumption) ?_
            rotate_left
            · (intro wq hSw; (try dsimp only at hSw); go_simp; (try with_reducible rfl))
            simp only [Act.put, List.getElem_toArray, List.getElem_cons_zero, List.getElem_cons_succ, List.setIfInBounds_toArray, List.set_cons_zero, List.set_cons_succ]
            refine wpAnyH_take (i := 12) (v := ?_) rfl (by kernel_rfl) (by kernel_rfl) (by kernel_rfl) (fun _ _ _ h => h) (Or.inl ⟨by rfl, ?_⟩) (by assumption) ?_
            rotate_left
            · (intro wq hSw; (try dsimp only at hSw); go_simp; (try with_reducible rfl))
            simp only [Act.put, List.getElem_toArray, List.getElem_cons_zero, List.getElem_cons_succ, List.setIfInBounds_toArray, List.set_cons_zero, List.set_cons_succ]
            refine wpAnyH_take (i := 13) (v := ?_) rfl (by kernel_rfl) (by kernel_rfl) (by kernel_rfl) (fun _ _ _ h => h) (Or.inl ⟨by rfl, ?_⟩) (by assumption) ?_
            rotate_left
            · (intro wq hSw; (try dsimp only at hSw); go_simp; (try with_reducible rfl))
            simp only [Act.put, List.getElem_toArray, List.getElem_cons_zero, List.getElem_cons_succ, List.setIfInBounds_toArray, List.set_cons_zero, List.set_cons_succ]
            refine wpAnyH_take (i := 14) (v := ?_) rfl (by kernel_rfl) (by kernel_rfl) (by kernel_rfl) (fun _ _ _ h => h) (Or.inl ⟨by rfl, ?_⟩) (by assumption) ?_
            rotate_left
            · (intro wq hSw; (try dsimp only at hSw); go_simp; (try with_reducible rfl))
            simp only [Act.put, List.getElem_toArray, List.getElem_cons_zero, List.getElem_cons_succ, List.setIfInBounds_toArray, List.set_cons_zero, List.set_cons_succ]
            refine wpAnyH_ready (rs := [15]) (by kernel_rfl) (by simp) ?_
            refine AllReadyH.cons (by simp only [List.getElem?_toArray, List.getElem?_cons_succ, List.getElem?_cons_zero]; rfl) (fun K hK => ?_) AllReadyH.nil
            go_simp
            refine hK.out _ _ ?_ (fun hHeld => ?_)
            · (first | exact ⟨a5, a6, b5, b7⟩ | exact ⟨z5, z6, y5', y7⟩)
            clear hK K
            (try simp only [Act.put, List.getElem_toArray, List.getElem_cons_zero, List.getElem_cons_succ, List.setIfInBounds_toArray, List.set_cons_zero, List.set_cons_succ])
            refine wpAnyH_done (by kernel_rfl) ?_ _
            change wpList _ _ _ _ _ _
            simp only [List.drop_succ_cons, List.drop_zero]
            obtain ⟨K2, H2, S2⟩ := HPF.out
            obtain ⟨RXF, hvF⟩ := HBK9.out _ _ ⟨K2, H2, S2⟩
            obtain ⟨u5, u6, u7, f0, f1, f2, f3, f4, f5, f6, f7, F5', F6', F7', h5', h6', h7', -⟩ := seatCells H2
            have hs5 := seen_flat h5'
            have hs6 := seen_flat h6'
            change Seen _ u5 ((gotS y9 m).parts.map Value.string) at hs5
            obtain ⟨pp, kp, rfl, hk1, hk2, hk3⟩ := hs5
            obtain ⟨gp, op, rfl, hk4⟩ := hk3 (by
              intro e
              have e1 := congrArg List.length e
              have e2 := HPQ.out
              have e3 : (gotS y9 m).parts.length = y9.parts.length := List.length_set
              rw [List.length_map, e3, List.length_nil] at e1
              omega)
            rw [List.length_map] at f5 hk1
            change Seen _ u6 ((gotS y9 m).have_.map Value.bool) at hs6
            obtain ⟨p8, k8, rfl, -, -, -⟩ := id hs6
            rw [List.length_map] at f6 hs6
            have HSF := Lib.hid hs6
            have HKP := Lib.hid hk1
            have HJC : Hid (∀ (j : Nat) x, (gotS y9 m).parts[j]? = some x → ((wD.setCell ⟨g5, o5 + m.index.toNat, none⟩ (.string m.data)).setCell ⟨g6', o6' + m.index.toNat, none⟩ (.bool true)).cell? ⟨gp, op + j, none⟩ = some (.string x)) := Lib.hid (fun j x hx => hk4 j _ (by rw [List.getElem?_map, hx]; rfl))
            have HS2 := Lib.hid S2
            have RXFh := Lib.hid RXF
            have H2h := Lib.hid H2
            clear hk1 hk2 hk3 hk4 hs6 f0 f1 f2 f3 f4 f7 h5' h6' h7' RXF H2 S2 hvF
            go_upto_region 10 with fail
            generalize (wD.setCell ⟨g5, o5 + m.index.toNat, none⟩ (.string m.data)).setCell ⟨g6', o6' + m.index.toNat, none⟩ (.bool true) = wF at *
            clear a5 a6 a7 a8 z5 z6 z7 z8 b4 b5 b7 hHeld
            go_wp2_with fail
            refine (contains_bool _ _ (gotS y9 m).have_ false HSF.out).mono ?_
            rintro e w10 ⟨rfl, rfl⟩
            cases hcf : (gotS y9 m).have_.contains false with
            | true =>
              have HCF := Lib.hid hcf
              clear hcf
              go_wp2_with fail
              refine bodyPost_ret (results_none rfl _ _ _) rfl ?_
              have hM : partM h1 j m = { h1 with seats := h1.seats.set j (gotS y9 m) } := by unfold partM; rw [HGD.out, if_pos HP9.out, if_pos HCF.out]
              exact ⟨rfl, by rw [HACC.out, hM]; exact RXFh.out.post⟩
            | false =>
              have HCF := Lib.hid hcf
              clear hcf
              have hM : partM h1 j m = { h1 with seats := h1.seats.set j { resetS (gotS y9 m) 1 m.epoch with letter := joinL (gotS y9 m).parts }, out := h1.out ++ [answerM h1 m 4] } := by unfold partM; rw [HGD.out, if_pos HP9.out, if_neg (by rw [HCF.out]; simp)]
              have HM := Lib.hid hM
              clear hM
              have hpl : (gotS y9 m).parts.length = y9.parts.length := List.length_set
              have hok2 : ∀ p ∈ (gotS y9 m).parts, p.size ≤ 1000 := fun p hp => by
                rcases List.mem_or_eq_of_mem_set hp with q | q
                · exact HOKJ.out.small p q
                · subst q; exact HD.out
              have hjl : (Lib.join ((gotS y9 m).parts.map (·.data.toList)) (⟨#[]⟩ : ByteArray).data.toList).length ≤ 140737488355328 := by
                have := join_len (gotS y9 m).parts 1000 hok2
                have := HOKJ.out.few
                have h3 : (gotS y9 m).parts.length * 1000 ≤ 20000 * 1000 := Nat.mul_le_mul_right _ (by omega)
                show (Lib.join ((gotS y9 m).parts.map (·.data.toList)) []).length ≤ 140737488355328
                omega
              have hbk : gp < wF.heap.size := by
                have h0 : 0 < (gotS y9 m).parts.length := by have := HPQ.out; omega
                exact World.block_lt_of_cell? _ _ (HJC.out 0 (gotS y9 m).parts[0] (by simp [h0]))
              have HBK := Lib.hid hbk
              have HJL := Lib.hid hjl
              have HPL : Hid ((gotS y9 m).parts.length ≤ 140737488355328) := Lib.hid (by have := HOKJ.out.few; omega)
              clear hpl hok2 hjl hbk
              go_wp2_with fail
              have hJ : Calls Try.prog 74 #[.slice (some ⟨gp, op, none⟩) (gotS y9 m).parts.length kp, .string ⟨#[]⟩] wF fun e w' => e = .returned (.string (joinL (gotS y9 m).parts)) ∧ Below wF.heap.size wF w' := shJoin gp op kp (gotS y9 m).parts ⟨#[]⟩ wF HJC.out HBK.out HPL.out HKP.out HJL.out
              refine hJ.mono ?_
              rintro e w11 ⟨rfl, hb11⟩
              have hcJ : Chg (fun _ => False) wF w11 := (Chg.ofBelow hb11).mono (fun i hi x => by omega)
              have H11 := H2h.out.still hcJ
              obtain ⟨_, _, _, -, -, -, -, x4, -⟩ := seatCells H11
              have fz4 := H11.frozen (off + j * 8 + 4)
              obtain ⟨K3, H3, S3⟩ := H11.setField seatR_letter (y := joinL (gotS y9 m).parts) (v := .string (joinL (gotS y9 m).parts)) rfl
              have S23 := HS2.out.trans ((Step.ofChg hcJ).trans S3)
              obtain ⟨RX3, -⟩ := HBK9.out _ _ ⟨K3, H3, S23⟩
              obtain ⟨-, -, -, -, b4, -, -, -⟩ := RX3.cells
              have HS23 := Lib.hid S23
              have H3h := Lib.hid H3
              clear hb11 H11 S3 S23 RX3 H3 hcJ f5 f6
              generalize joinL (gotS y9 m).parts = jl at *
              go_wp2_with fail
              refine (reset_any _ g (off + j * 8) { gotS y9 m with letter := jl } K3 1 m.epoch H3h.out).mono ?_
              rintro e w12 ⟨rfl, K4, H4, S4⟩
              obtain ⟨RX4, -⟩ := HBK9.out _ _ ⟨K4, H4, HS23.out.trans S4⟩
              obtain ⟨b0, b1, b2, b3, b4, b5, b6, b7⟩ := RX4.cells
              have HX4 := Lib.hid RX4
              clear RX4 H4 S4 x4 fz4
              go_wp2_with fail
              refine (HX4.out.answer 4 (by show Few h1.out.length; rw [HOUT.out]; exact HOL.out)).mono ?_
              rintro e w13 ⟨rfl, RX5⟩
              go_wp2_with fail
              go_end0
              exact ⟨rfl, by rw [HACC.out, HM.out]; exact RX5.post⟩
        · have q3 : ((h1.seats[j].parts.length : Int) != m.count) = true := by simpa using k3
          have HP : Hid (partB h1.seats[j] m = false) := Lib.hid (by unfold partB; simp [k3])
          clear k1 k2 k3
          refine wp_region_later (by kernel_rfl) (by kernel_rfl) ?_
          repeat (go_big_quiet_step ((go_at_call 71; exact Later.call (HFM.out _))))
          refine wpQuiet_nil ?_
          rintro _ ⟨x, rfl⟩
          go_wp2_with fail
          refine bodyPost_ret (results_none rfl _ _ _) rfl ?_
          exact ⟨rfl, FIN.out x HP.out⟩
    · have q1 : (m.kind != 2) = true := by simpa using k1
      have HP : Hid (partB h1.seats[j] m = false) := Lib.hid (by unfold partB; simp [k1])
      clear k1
      refine wp_region_later (by kernel_rfl) (by kernel_rfl) ?_
      repeat (go_big_quiet_step ((go_at_call 71; exact Later.call (HFM.out _))))
      refine wpQuiet_nil ?_
      rintro _ ⟨x, rfl⟩
      go_wp2_with fail
      refine bodyPost_ret (results_none rfl _ _ _) rfl ?_
      exact ⟨rfl, FIN.out x HP.out⟩
end Go.Proofs.Ytkoopagjjmdodaa
