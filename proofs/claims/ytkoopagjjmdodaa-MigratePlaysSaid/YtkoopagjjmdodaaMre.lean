/-
  The machine of layer 54, receiving: a machine and the boxed message beside it.
-/
import Derived.Test.YtkoopagjjmdodaaMrd
namespace Go.Proofs.Ytkoopagjjmdodaa
open Go.RowKit
set_option linter.unusedVariables false
set_option linter.unusedSimpArgs false

/-- The block of a row in a field is one of the thing's own. -/
theorem Here.ownIn {α β : Type} {A : Rep α} {B : Rep β} {e k : Nat} {w : World} {b o : Nat} {a : α} {F : List Nat} {get : α → List β} {set : α → List β → α} (H : Here A w b o a F) (fl : FieldOf A (B.row e) k get set) (hA : 0 < A.n) {v : Value} (hv : w.cell? ⟨b, o + k, none⟩ = some v) : ∀ j, v.ownBlock = some j → j ∈ F := by
  obtain ⟨G1, h1, h2, h3⟩ := H.field fl hA
  obtain ⟨vo, xs, Fs, c2, hopen⟩ := h1.openRow
  rw [c2] at hv
  cases hv
  exact fun j hj => h2 j (by rw [hopen.fp]; exact List.mem_append_left _ (mem_ownL.2 hj))
/-- A machine behind a part of a call that began in w; the message's box is the call's first block. -/
structure Rx (w w' : World) (b o : Nat) (F : List Nat) (m : Msg) (h' : Host) : Prop where
  ex : ∃ F', Here hostR w' b o h' F' ∧ Step w w' b o 3 F F' ∧ w.heap.size ∉ F'
  low : b < w.heap.size
  box : w'.heap[w.heap.size]? = some (.cells m.cells.toArray 39 (0, 0))
section
variable {w w' w'' : World} {b o : Nat} {F : List Nat} {m : Msg} {h h' h'' : Host}
theorem Rx.start (H : Here hostR w b o h F) (m : Msg) : Rx w (w.alloc (.cells m.cells.toArray 39)) b o F m h := by
  have hc := Chg.alloc (fun _ => False) w (.cells m.cells.toArray 39)
  exact ⟨⟨F, H.still hc, Step.ofChg hc, fun x => by have := H.lt.2 _ x; omega⟩, H.lt.1, alloc_block w _⟩
theorem Rx.step {F' : List Nat} (low : b < w.heap.size) (box : w'.heap[w.heap.size]? = some (.cells m.cells.toArray 39 (0, 0))) (S : Step w w' b o 3 F F') (hn : w.heap.size ∉ F') (h2 : HostPost w' b o h'' F' w'') : Rx w w'' b o F m h'' := by
  obtain ⟨F2, H2, S2⟩ := h2
  have hlt := lt_of_block box
  refine ⟨⟨F2, H2, S.trans S2, fun x => ?_⟩, low, ?_⟩
  · rcases S2.new _ x with y | y
    · exact hn y
    · omega
  · refine S2.chg.keep box ?_
    rintro (x | x)
    · omega
    · exact hn x
theorem Rx.next (h1 : Rx w w' b o F m h') (h2 : ∀ F', Here hostR w' b o h' F' → HostPost w' b o h'' F' w'') : Rx w w'' b o F m h'' := by
  obtain ⟨F', H, S, hn⟩ := h1.ex
  exact Rx.step h1.low h1.box S hn (h2 F' H)
theorem Rx.still (h1 : Rx w w' b o F m h') (hc : Chg (fun _ => False) w' w'') : Rx w w'' b o F m h' := h1.next fun F' H => hostStill H hc
theorem Rx.cell (h1 : Rx w w' b o F m h') {i : Nat} {u : Value} (hu : m.cells[i]? = some u) : w'.cell? ⟨w.heap.size, i, none⟩ = some u :=
  cell_of_block (i := i) h1.box (by simpa using hu)
theorem Rx.cells (h1 : Rx w w' b o F m h') : w'.cell? ⟨w.heap.size, 0, none⟩ = some (.int .i64 m.kind) ∧ w'.cell? ⟨w.heap.size, 1, none⟩ = some (.int .i64 m.frm) ∧ w'.cell? ⟨w.heap.size, 2, none⟩ = some (.int .i64 m.dst) ∧ w'.cell? ⟨w.heap.size, 3, none⟩ = some (.string m.page) ∧
    w'.cell? ⟨w.heap.size, 4, none⟩ = some (.int .i64 m.epoch) ∧ w'.cell? ⟨w.heap.size, 5, none⟩ = some (.int .i64 m.index) ∧ w'.cell? ⟨w.heap.size, 6, none⟩ = some (.int .i64 m.count) ∧ w'.cell? ⟨w.heap.size, 7, none⟩ = some (.string m.data) :=
  ⟨h1.cell (i := 0) rfl, h1.cell (i := 1) rfl, h1.cell (i := 2) rfl, h1.cell (i := 3) rfl, h1.cell (i := 4) rfl, h1.cell (i := 5) rfl, h1.cell (i := 6) rfl, h1.cell (i := 7) rfl⟩
theorem Rx.post (h1 : Rx w w' b o F m h') : HostPost w b o h' F w' := by
  obtain ⟨F', H, S, -⟩ := h1.ex
  exact ⟨F', H, S⟩
theorem Rx.host (h1 : Rx w w' b o F m h') : ∃ vs, w'.cell? ⟨b, o, none⟩ = some (.int .i64 h'.id) ∧ w'.cell? ⟨b, o + 1, none⟩ = some vs := by
  obtain ⟨F', H, S, -⟩ := h1.ex
  obtain ⟨vs, vo, c0, c1, -⟩ := hostCells H
  exact ⟨vs, c0, c1⟩
theorem Rx.row (h1 : Rx w w' b o F m h') (hl : 0 < h'.seats.length) : ∃ g off cap, w'.cell? ⟨b, o + 1, none⟩ = some (.slice (some ⟨g, off, none⟩) h'.seats.length cap) := by
  obtain ⟨F', H, S, -⟩ := h1.ex
  exact hostRow H hl
/-- A seat, and what an operation on it leaves of the machine. -/
theorem Rx.seat (h1 : Rx w w' b o F m h') {g off n cap j : Nat} (hv : w'.cell? ⟨b, o + 1, none⟩ = some (.slice (some ⟨g, off, none⟩) n cap)) (hj : j < h'.seats.length) :
    ∃ G, Here seatR w' g (off + j * 8) h'.seats[j] G ∧ (∀ x ∈ G, x ≠ w.heap.size) ∧ ∀ y w'', SeatPost w' g (off + j * 8) y G w'' → Rx w w'' b o F m { h' with seats := h'.seats.set j y } ∧ w''.cell? ⟨b, o + 1, none⟩ = some (.slice (some ⟨g, off, none⟩) n cap) := by
  obtain ⟨F', H, S, hn⟩ := h1.ex
  obtain ⟨G, HS, hgb, hbG, hsub, hback⟩ := H.rowElem hostR_seats (by show 0 < 3; decide) hv hj
  change Here seatR w' g (off + j * 8) h'.seats[j] G at HS
  exact ⟨G, HS, fun x hx e => hn (e ▸ hsub x hx), fun y w'' ⟨K', a, c⟩ => ⟨Rx.step h1.low h1.box S hn (hback _ _ _ a c).1, (hback _ _ _ a c).2 _ _ hv⟩⟩
theorem Rx.apart (h1 : Rx w w' b o F m h') {g off n cap : Nat} (hv : w'.cell? ⟨b, o + 1, none⟩ = some (.slice (some ⟨g, off, none⟩) n cap)) : w.heap.size ≠ g := by
  obtain ⟨F', H, S, hn⟩ := h1.ex
  intro e
  exact hn (e ▸ H.ownIn hostR_seats (by show 0 < 3; decide) hv g rfl)
theorem Chg.cellNo {b : Nat} {w w' : World} (h : Chg (· = b) w w') {a : Addr} {v : Value} (hc : w.cell? a = some v) (hne : a.block ≠ b) : w'.cell? a = some v := by
  have hb : a.block < w.heap.size := World.block_lt_of_cell? w _ hc
  rw [World.cell?_of_block (h.block a.block hb hne)]; exact hc
/-- An answer goes out. -/
theorem Rx.answer (h1 : Rx w w' b o F m h') (kd : Int) (hl : Few h'.out.length) :
    Calls Try.prog 57 #[.pointer (some ⟨b, o, none⟩), .agg m.cells.toArray, .int .i64 kd] w' fun e w'' => e = .returned (.tuple #[]) ∧ Rx w w'' b o F m { h' with out := h'.out ++ [⟨kd, h'.id, m.frm, m.page, m.epoch, 0, 0, ⟨#[]⟩⟩] } := by
  obtain ⟨F', H, S, hn⟩ := h1.ex
  obtain ⟨vs, vo, c0, -⟩ := hostCells H
  obtain ⟨G, HO, hout⟩ := hostOut H
  refine (answer_any w' b o h'.id h'.out G m kd c0 HO hl).mono ?_
  rintro e w'' ⟨rfl, hp⟩
  exact ⟨rfl, Rx.step h1.low h1.box S hn (hout _ _ hp).1⟩
/-- The search for a seat. -/
theorem Rx.find (h1 : Rx w w' b o F m h') (page : ByteArray) {vs : Value} (hv : w'.cell? ⟨b, o + 1, none⟩ = some vs) :
    Calls Try.prog 37 #[.pointer (some ⟨b, o, none⟩), .string page] w' fun e w'' => e = .returned (.pointer (seatPtr vs (findS page h'.seats 0))) ∧ Chg (fun _ => False) w' w'' := by
  obtain ⟨F', H, S, hn⟩ := h1.ex
  exact seat_any w' b o h' F' page vs H hv
end
end Go.Proofs.Ytkoopagjjmdodaa
