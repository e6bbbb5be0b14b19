/-
  A machine of layer 54 in memory: seats, messages; the search for a seat.
-/
import Derived.Test.YtkoopagjjmdodaaProg
import Derived.Test.YtkoopagjjmdodaaHoldb
import Derived.WalkKit
import Derived.WalkSpells
import Derived.WalkLawsBesides
import Derived.Lib.Hide
import Derived.Deep.QuietTactic
import Derived.BigQuiet
import Derived.Deep.DeepCutAuto
import Derived.Deep.CutBlock
import Derived.Laws.StructEq
namespace Go.Proofs.Ytkoopagjjmdodaa
open Go.RowKit
set_option linter.unusedVariables false

structure Seat where
  page : ByteArray
  state : Int
  epoch : Int
  peer : Int
  letter : ByteArray
  parts : List ByteArray
  have_ : List Bool
  refuses : List Int
def Seat.Own (w : World) (cs : List Value) (s : Seat) (F : List Nat) : Prop :=
  ∃ vparts vhave_ vrefuses, ∃ Fparts Fhave_ Frefuses, cs = [.string s.page, .int .i64 s.state, .int .i64 s.epoch, .int .i64 s.peer, .string s.letter, vparts, vhave_, vrefuses] ∧ ((Rep.str).row 9).own w [vparts] s.parts Fparts ∧ ((Rep.bool).row 4).own w [vhave_] s.have_ Fhave_ ∧ ((Rep.int .i64).row 3).own w [vrefuses] s.refuses Frefuses ∧ F = Fparts ++ Fhave_ ++ Frefuses
def seatR : Rep Seat where
  n := 8
  own := Seat.Own
  len := by rintro w cs s F ⟨vparts, vhave_, vrefuses, Fparts, Fhave_, Frefuses, rfl, hparts, hhave_, hrefuses, rfl⟩; rfl
  lt := by
    rintro w cs s F ⟨vparts, vhave_, vrefuses, Fparts, Fhave_, Frefuses, rfl, hparts, hhave_, hrefuses, rfl⟩ k hk
    simp only [List.mem_append] at hk
    rcases hk with (hk | hk) | hk
    · exact ((Rep.str).row 9).lt hparts k hk
    · exact ((Rep.bool).row 4).lt hhave_ k hk
    · exact ((Rep.int .i64).row 3).lt hrefuses k hk
  keep := by
    rintro w w2 cs s F ⟨vparts, vhave_, vrefuses, Fparts, Fhave_, Frefuses, rfl, hparts, hhave_, hrefuses, rfl⟩ hk
    exact ⟨_, _, _, _, _, _, rfl, ((Rep.str).row 9).keep hparts (fun k hm => hk k (by simp [hm])), ((Rep.bool).row 4).keep hhave_ (fun k hm => hk k (by simp [hm])), ((Rep.int .i64).row 3).keep hrefuses (fun k hm => hk k (by simp [hm])), rfl⟩
theorem seatR_page : FieldOf seatR Rep.str 0 (·.page) (fun s y => { s with page := y }) := by
  refine ⟨by show 0 + 1 ≤ 8; omega, ?_⟩
  rintro w cs s F ⟨vparts, vhave_, vrefuses, Fparts, Fhave_, Frefuses, rfl, hparts, hhave_, hrefuses, rfl⟩
  refine ⟨Fparts ++ Fhave_ ++ Frefuses, [], [], by simp, ⟨rfl, rfl⟩, fun w2 ys y G hk hy => ?_⟩
  obtain ⟨rfl, rfl⟩ := hy
  exact ⟨_, _, _, _, _, _, rfl, ((Rep.str).row 9).keep hparts (fun k hm => hk k (by simp [hm])), ((Rep.bool).row 4).keep hhave_ (fun k hm => hk k (by simp [hm])), ((Rep.int .i64).row 3).keep hrefuses (fun k hm => hk k (by simp [hm])), by simp⟩
theorem seatR_state : FieldOf seatR (Rep.int .i64) 1 (·.state) (fun s y => { s with state := y }) := by
  refine ⟨by show 1 + 1 ≤ 8; omega, ?_⟩
  rintro w cs s F ⟨vparts, vhave_, vrefuses, Fparts, Fhave_, Frefuses, rfl, hparts, hhave_, hrefuses, rfl⟩
  refine ⟨Fparts ++ Fhave_ ++ Frefuses, [], [], by simp, ⟨rfl, rfl⟩, fun w2 ys y G hk hy => ?_⟩
  obtain ⟨rfl, rfl⟩ := hy
  exact ⟨_, _, _, _, _, _, rfl, ((Rep.str).row 9).keep hparts (fun k hm => hk k (by simp [hm])), ((Rep.bool).row 4).keep hhave_ (fun k hm => hk k (by simp [hm])), ((Rep.int .i64).row 3).keep hrefuses (fun k hm => hk k (by simp [hm])), by simp⟩
theorem seatR_epoch : FieldOf seatR (Rep.int .i64) 2 (·.epoch) (fun s y => { s with epoch := y }) := by
  refine ⟨by show 2 + 1 ≤ 8; omega, ?_⟩
  rintro w cs s F ⟨vparts, vhave_, vrefuses, Fparts, Fhave_, Frefuses, rfl, hparts, hhave_, hrefuses, rfl⟩
  refine ⟨Fparts ++ Fhave_ ++ Frefuses, [], [], by simp, ⟨rfl, rfl⟩, fun w2 ys y G hk hy => ?_⟩
  obtain ⟨rfl, rfl⟩ := hy
  exact ⟨_, _, _, _, _, _, rfl, ((Rep.str).row 9).keep hparts (fun k hm => hk k (by simp [hm])), ((Rep.bool).row 4).keep hhave_ (fun k hm => hk k (by simp [hm])), ((Rep.int .i64).row 3).keep hrefuses (fun k hm => hk k (by simp [hm])), by simp⟩
theorem seatR_peer : FieldOf seatR (Rep.int .i64) 3 (·.peer) (fun s y => { s with peer := y }) := by
  refine ⟨by show 3 + 1 ≤ 8; omega, ?_⟩
  rintro w cs s F ⟨vparts, vhave_, vrefuses, Fparts, Fhave_, Frefuses, rfl, hparts, hhave_, hrefuses, rfl⟩
  refine ⟨Fparts ++ Fhave_ ++ Frefuses, [], [], by simp, ⟨rfl, rfl⟩, fun w2 ys y G hk hy => ?_⟩
  obtain ⟨rfl, rfl⟩ := hy
  exact ⟨_, _, _, _, _, _, rfl, ((Rep.str).row 9).keep hparts (fun k hm => hk k (by simp [hm])), ((Rep.bool).row 4).keep hhave_ (fun k hm => hk k (by simp [hm])), ((Rep.int .i64).row 3).keep hrefuses (fun k hm => hk k (by simp [hm])), by simp⟩
theorem seatR_letter : FieldOf seatR Rep.str 4 (·.letter) (fun s y => { s with letter := y }) := by
  refine ⟨by show 4 + 1 ≤ 8; omega, ?_⟩
  rintro w cs s F ⟨vparts, vhave_, vrefuses, Fparts, Fhave_, Frefuses, rfl, hparts, hhave_, hrefuses, rfl⟩
  refine ⟨Fparts ++ Fhave_ ++ Frefuses, [], [], by simp, ⟨rfl, rfl⟩, fun w2 ys y G hk hy => ?_⟩
  obtain ⟨rfl, rfl⟩ := hy
  exact ⟨_, _, _, _, _, _, rfl, ((Rep.str).row 9).keep hparts (fun k hm => hk k (by simp [hm])), ((Rep.bool).row 4).keep hhave_ (fun k hm => hk k (by simp [hm])), ((Rep.int .i64).row 3).keep hrefuses (fun k hm => hk k (by simp [hm])), by simp⟩
theorem seatR_parts : FieldOf seatR ((Rep.str).row 9) 5 (·.parts) (fun s y => { s with parts := y }) := by
  refine ⟨by show 5 + 1 ≤ 8; omega, ?_⟩
  rintro w cs s F ⟨vparts, vhave_, vrefuses, Fparts, Fhave_, Frefuses, rfl, hparts, hhave_, hrefuses, rfl⟩
  refine ⟨[], Fparts, Fhave_ ++ Frefuses, by simp, hparts, fun w2 ys y G hk hy => ?_⟩
  obtain ⟨y0, rfl⟩ : ∃ y0, ys = [y0] := List.length_eq_one_iff.1 (((Rep.str).row 9).len hy)
  exact ⟨_, _, _, G, Fhave_, Frefuses, rfl, hy, ((Rep.bool).row 4).keep hhave_ (fun k hm => hk k (by simp [hm])), ((Rep.int .i64).row 3).keep hrefuses (fun k hm => hk k (by simp [hm])), by simp⟩
theorem seatR_have_ : FieldOf seatR ((Rep.bool).row 4) 6 (·.have_) (fun s y => { s with have_ := y }) := by
  refine ⟨by show 6 + 1 ≤ 8; omega, ?_⟩
  rintro w cs s F ⟨vparts, vhave_, vrefuses, Fparts, Fhave_, Frefuses, rfl, hparts, hhave_, hrefuses, rfl⟩
  refine ⟨Fparts, Fhave_, Frefuses, by simp, hhave_, fun w2 ys y G hk hy => ?_⟩
  obtain ⟨y0, rfl⟩ : ∃ y0, ys = [y0] := List.length_eq_one_iff.1 (((Rep.bool).row 4).len hy)
  exact ⟨_, _, _, Fparts, G, Frefuses, rfl, ((Rep.str).row 9).keep hparts (fun k hm => hk k (by simp [hm])), hy, ((Rep.int .i64).row 3).keep hrefuses (fun k hm => hk k (by simp [hm])), by simp⟩
theorem seatR_refuses : FieldOf seatR ((Rep.int .i64).row 3) 7 (·.refuses) (fun s y => { s with refuses := y }) := by
  refine ⟨by show 7 + 1 ≤ 8; omega, ?_⟩
  rintro w cs s F ⟨vparts, vhave_, vrefuses, Fparts, Fhave_, Frefuses, rfl, hparts, hhave_, hrefuses, rfl⟩
  refine ⟨Fparts ++ Fhave_, Frefuses, [], by simp, hrefuses, fun w2 ys y G hk hy => ?_⟩
  obtain ⟨y0, rfl⟩ : ∃ y0, ys = [y0] := List.length_eq_one_iff.1 (((Rep.int .i64).row 3).len hy)
  exact ⟨_, _, _, Fparts, Fhave_, G, rfl, ((Rep.str).row 9).keep hparts (fun k hm => hk k (by simp [hm])), ((Rep.bool).row 4).keep hhave_ (fun k hm => hk k (by simp [hm])), hy, by simp⟩
structure Msg where
  kind : Int
  frm : Int
  dst : Int
  page : ByteArray
  epoch : Int
  index : Int
  count : Int
  data : ByteArray
def Msg.cells (s : Msg) : List Value := [.int .i64 s.kind, .int .i64 s.frm, .int .i64 s.dst, .string s.page, .int .i64 s.epoch, .int .i64 s.index, .int .i64 s.count, .string s.data]
theorem Msg.len (s : Msg) : s.cells.length = 8 := rfl
def msgR : Rep Msg := Rep.flat 8 Msg.cells Msg.len
theorem msgR_kind : FieldOf msgR (Rep.int .i64) 0 (·.kind) (fun s y => { s with kind := y }) := by
  refine ⟨by show 0 + 1 ≤ 8; omega, ?_⟩
  rintro w cs s F ⟨rfl, rfl⟩
  exact ⟨[], [], [], rfl, ⟨rfl, rfl⟩, fun w2 ys y G hk hy => by obtain ⟨rfl, rfl⟩ := hy; exact ⟨rfl, rfl⟩⟩
theorem msgR_frm : FieldOf msgR (Rep.int .i64) 1 (·.frm) (fun s y => { s with frm := y }) := by
  refine ⟨by show 1 + 1 ≤ 8; omega, ?_⟩
  rintro w cs s F ⟨rfl, rfl⟩
  exact ⟨[], [], [], rfl, ⟨rfl, rfl⟩, fun w2 ys y G hk hy => by obtain ⟨rfl, rfl⟩ := hy; exact ⟨rfl, rfl⟩⟩
theorem msgR_dst : FieldOf msgR (Rep.int .i64) 2 (·.dst) (fun s y => { s with dst := y }) := by
  refine ⟨by show 2 + 1 ≤ 8; omega, ?_⟩
  rintro w cs s F ⟨rfl, rfl⟩
  exact ⟨[], [], [], rfl, ⟨rfl, rfl⟩, fun w2 ys y G hk hy => by obtain ⟨rfl, rfl⟩ := hy; exact ⟨rfl, rfl⟩⟩
theorem msgR_page : FieldOf msgR Rep.str 3 (·.page) (fun s y => { s with page := y }) := by
  refine ⟨by show 3 + 1 ≤ 8; omega, ?_⟩
  rintro w cs s F ⟨rfl, rfl⟩
  exact ⟨[], [], [], rfl, ⟨rfl, rfl⟩, fun w2 ys y G hk hy => by obtain ⟨rfl, rfl⟩ := hy; exact ⟨rfl, rfl⟩⟩
theorem msgR_epoch : FieldOf msgR (Rep.int .i64) 4 (·.epoch) (fun s y => { s with epoch := y }) := by
  refine ⟨by show 4 + 1 ≤ 8; omega, ?_⟩
  rintro w cs s F ⟨rfl, rfl⟩
  exact ⟨[], [], [], rfl, ⟨rfl, rfl⟩, fun w2 ys y G hk hy => by obtain ⟨rfl, rfl⟩ := hy; exact ⟨rfl, rfl⟩⟩
theorem msgR_index : FieldOf msgR (Rep.int .i64) 5 (·.index) (fun s y => { s with index := y }) := by
  refine ⟨by show 5 + 1 ≤ 8; omega, ?_⟩
  rintro w cs s F ⟨rfl, rfl⟩
  exact ⟨[], [], [], rfl, ⟨rfl, rfl⟩, fun w2 ys y G hk hy => by obtain ⟨rfl, rfl⟩ := hy; exact ⟨rfl, rfl⟩⟩
theorem msgR_count : FieldOf msgR (Rep.int .i64) 6 (·.count) (fun s y => { s with count := y }) := by
  refine ⟨by show 6 + 1 ≤ 8; omega, ?_⟩
  rintro w cs s F ⟨rfl, rfl⟩
  exact ⟨[], [], [], rfl, ⟨rfl, rfl⟩, fun w2 ys y G hk hy => by obtain ⟨rfl, rfl⟩ := hy; exact ⟨rfl, rfl⟩⟩
theorem msgR_data : FieldOf msgR Rep.str 7 (·.data) (fun s y => { s with data := y }) := by
  refine ⟨by show 7 + 1 ≤ 8; omega, ?_⟩
  rintro w cs s F ⟨rfl, rfl⟩
  exact ⟨[], [], [], rfl, ⟨rfl, rfl⟩, fun w2 ys y G hk hy => by obtain ⟨rfl, rfl⟩ := hy; exact ⟨rfl, rfl⟩⟩
structure Host where
  id : Int
  seats : List Seat
  out : List Msg
def Host.Own (w : World) (cs : List Value) (s : Host) (F : List Nat) : Prop :=
  ∃ vseats vout, ∃ Fseats Fout, cs = [.int .i64 s.id, vseats, vout] ∧ ((seatR).row 67).own w [vseats] s.seats Fseats ∧ ((msgR).row 39).own w [vout] s.out Fout ∧ F = Fseats ++ Fout
def hostR : Rep Host where
  n := 3
  own := Host.Own
  len := by rintro w cs s F ⟨vseats, vout, Fseats, Fout, rfl, hseats, hout, rfl⟩; rfl
  lt := by
    rintro w cs s F ⟨vseats, vout, Fseats, Fout, rfl, hseats, hout, rfl⟩ k hk
    simp only [List.mem_append] at hk
    rcases hk with hk | hk
    · exact ((seatR).row 67).lt hseats k hk
    · exact ((msgR).row 39).lt hout k hk
  keep := by
    rintro w w2 cs s F ⟨vseats, vout, Fseats, Fout, rfl, hseats, hout, rfl⟩ hk
    exact ⟨_, _, _, _, rfl, ((seatR).row 67).keep hseats (fun k hm => hk k (by simp [hm])), ((msgR).row 39).keep hout (fun k hm => hk k (by simp [hm])), rfl⟩
theorem hostR_id : FieldOf hostR (Rep.int .i64) 0 (·.id) (fun s y => { s with id := y }) := by
  refine ⟨by show 0 + 1 ≤ 3; omega, ?_⟩
  rintro w cs s F ⟨vseats, vout, Fseats, Fout, rfl, hseats, hout, rfl⟩
  refine ⟨Fseats ++ Fout, [], [], by simp, ⟨rfl, rfl⟩, fun w2 ys y G hk hy => ?_⟩
  obtain ⟨rfl, rfl⟩ := hy
  exact ⟨_, _, _, _, rfl, ((seatR).row 67).keep hseats (fun k hm => hk k (by simp [hm])), ((msgR).row 39).keep hout (fun k hm => hk k (by simp [hm])), by simp⟩
theorem hostR_seats : FieldOf hostR ((seatR).row 67) 1 (·.seats) (fun s y => { s with seats := y }) := by
  refine ⟨by show 1 + 1 ≤ 3; omega, ?_⟩
  rintro w cs s F ⟨vseats, vout, Fseats, Fout, rfl, hseats, hout, rfl⟩
  refine ⟨[], Fseats, Fout, by simp, hseats, fun w2 ys y G hk hy => ?_⟩
  obtain ⟨y0, rfl⟩ : ∃ y0, ys = [y0] := List.length_eq_one_iff.1 (((seatR).row 67).len hy)
  exact ⟨_, _, G, Fout, rfl, hy, ((msgR).row 39).keep hout (fun k hm => hk k (by simp [hm])), by simp⟩
theorem hostR_out : FieldOf hostR ((msgR).row 39) 2 (·.out) (fun s y => { s with out := y }) := by
  refine ⟨by show 2 + 1 ≤ 3; omega, ?_⟩
  rintro w cs s F ⟨vseats, vout, Fseats, Fout, rfl, hseats, hout, rfl⟩
  refine ⟨Fseats, Fout, [], by simp, hout, fun w2 ys y G hk hy => ?_⟩
  obtain ⟨y0, rfl⟩ : ∃ y0, ys = [y0] := List.length_eq_one_iff.1 (((msgR).row 39).len hy)
  exact ⟨_, _, Fseats, G, rfl, ((seatR).row 67).keep hseats (fun k hm => hk k (by simp [hm])), hy, by simp⟩

/-- Where the seat of a page is, from place k on. -/
def findS (page : ByteArray) : List Seat → Nat → Option Nat
  | [], _ => none
  | s :: l, k => if (s.page.toList == page.toList) = true then some k else findS page l (k + 1)
def idxOf : Option Nat → Int
  | none => -1
  | some i => (i : Int)
theorem findS_lt (page : ByteArray) : ∀ (l : List Seat) (k i : Nat), findS page l k = some i → k ≤ i ∧ i < k + l.length
  | [], _, _, h => by simp [findS] at h
  | s :: l, k, i, h => by
    rw [findS] at h
    split at h
    · simp at h; subst h; simp
    · have := findS_lt page l (k + 1) i h
      simp only [List.length_cons]; omega

set_option maxHeartbeats 400000 in
theorem named_any (page : ByteArray) (w : World) (hs : page.size ≤ 9223372036854775807) :
    Calls Try.prog 42 #[.string page] w fun e w' => e = .returned (.bool (decide (1 ≤ page.size ∧ page.size ≤ 200))) ∧ w = w' := by
  by_cases h1 : 1 ≤ page.size
  · have hd : decide ((1 : Int) ≤ (page.size : Int)) = true := by simp; omega
    go_enter Try.func42, Try.ntmps42
    go_wp2_with fail
    go_ret
    refine ⟨?_, rfl⟩
    show Ending.returned (.bool _) = _
    congr 2
    simp [h1]
    omega
  · have hd : decide ((1 : Int) ≤ (page.size : Int)) = false := by simp; omega
    go_enter Try.func42, Try.ntmps42
    go_wp2_with fail
    go_ret
    refine ⟨?_, rfl⟩
    show Ending.returned (.bool _) = _
    congr 2
    simp [h1]

set_option maxHeartbeats 400000 in
set_option maxRecDepth 100000 in
theorem seatIs_any (s : Seat) (cs : List Value) (F : List Nat) (page : ByteArray) (pb : Nat) (w : World) (hs : seatR.own w cs s F) (hp : w.cell? ⟨pb, 0, none⟩ = some (.string page)) :
    Calls Try.prog 62 #[.agg cs.toArray, .pointer (some ⟨pb, 0, none⟩)] w fun e w' => e = .returned (.bool (s.page.toList == page.toList)) ∧ Chg (fun _ => False) w w' := by
  obtain ⟨v1, v2, v3, F1, F2, F3, rfl, -, -, -, -⟩ := hs
  have hlt := World.block_lt_of_cell? w _ hp
  go_enter Try.func62, Try.ntmps62
  go_wp2_with fail
  go_ret
  exact ⟨rfl, Chg.alloc _ _ _⟩

set_option maxHeartbeats 800000 in
set_option maxRecDepth 100000 in
theorem indexFunc_any (seats : List Seat) (page : ByteArray) (pb : Nat) (vs : Value) (F : List Nat) (xs : List (List Value)) (Fs : List (List Nat)) (w : World) (hp : w.cell? ⟨pb, 0, none⟩ = some (.string page)) (hrow : RowOpen seatR 67 w vs seats F xs Fs) :
    Calls Try.prog 61 #[vs, .func (.func 62) #[] #[.pointer (some ⟨pb, 0, none⟩)]] w fun e w' => e = .returned (.int .i64 (idxOf (findS page seats 0))) ∧ Chg (fun _ => False) w w' := by
  obtain ⟨a, cap, rfl, hc1, hc2⟩ := hrow.val
  go_enter Try.func61, Try.ntmps61
  go_wp2_with fail
  go_loopw [5, 8] (fun _ i wr => ∃ k : Nat, k ≤ seats.length ∧ i = .int .i64 k ∧ Chg (fun _ => False) w wr ∧ Hid (findS page seats 0 = findS page (seats.drop k) k)) (fun _ i _ => seats.length - (intOf i).toNat)
  case atStart => exact ⟨0, Nat.zero_le _, rfl, Chg.refl _ _, rfl⟩
  case round =>
    obtain ⟨k, hk, rfl, hch, HF⟩ := hrel
    unfold maxLen at hc2
    by_cases hlt : k < seats.length
    · obtain ⟨g, off, cap', hv, _, _, _, _, hat⟩ := (hrow.still hch).at (by omega)
      simp only [Value.slice.injEq] at hv
      obtain ⟨rfl, _, rfl⟩ := hv
      obtain ⟨x, G, hx, _, hcells⟩ := hat k hlt
      have hx' := hx
      obtain ⟨v1, v2, v3, F1, F2, F3, rfl, -, -, -, -⟩ := hx'
      have c0 := hcells 0 _ rfl
      rw [Nat.add_zero] at c0
      have c1 := hcells 1 _ rfl
      have c2 := hcells 2 _ rfl
      have c3 := hcells 3 _ rfl
      have c4 := hcells 4 _ rfl
      have c5 := hcells 5 _ rfl
      have c6 := hcells 6 _ rfl
      have c7 := hcells 7 _ rfl
      clear hcells hat
      change wr.cell? ⟨g, off + k * 8, none⟩ = _ at c0
      change wr.cell? ⟨g, off + k * 8 + 1, none⟩ = _ at c1
      change wr.cell? ⟨g, off + k * 8 + 2, none⟩ = _ at c2
      change wr.cell? ⟨g, off + k * 8 + 3, none⟩ = _ at c3
      change wr.cell? ⟨g, off + k * 8 + 4, none⟩ = _ at c4
      change wr.cell? ⟨g, off + k * 8 + 5, none⟩ = _ at c5
      change wr.cell? ⟨g, off + k * 8 + 6, none⟩ = _ at c6
      change wr.cell? ⟨g, off + k * 8 + 7, none⟩ = _ at c7
      go_wp2_with fail
      refine (seatIs_any seats[k] _ G page pb wr hx (hch.cell hp)).mono ?_
      rintro e w2 ⟨rfl, hc2⟩
      have hF := HF.out
      rw [List.drop_eq_getElem_cons hlt, findS] at hF
      by_cases hq : (seats[k].page.toList == page.toList) = true
      · rw [if_pos hq] at hF
        rw [hq]
        have HF2 := Lib.hid hF
        clear hF HF c0 c1 c2 c3 c4 c5 c6 c7
        go_wp2_with fail
        go_ret
        exact ⟨by rw [HF2.out]; rfl, hch.trans' hc2⟩
      · rw [if_neg hq] at hF
        rw [Bool.not_eq_true] at hq
        rw [hq]
        have HF2 := Lib.hid hF
        clear hF HF c0 c1 c2 c3 c4 c5 c6 c7
        go_wp2_with fail
        go_roundw
        case rel => exact ⟨k + 1, by omega, by go_num, hch.trans' hc2, HF2⟩
        case measure => simp [intOf]; omega
    · have hF := HF.out
      rw [List.drop_of_length_le (by omega), findS] at hF
      have HF2 := Lib.hid hF
      clear hF HF
      go_wp2_with fail
      go_ret
      exact ⟨by rw [HF2.out]; rfl, hch⟩

/-- Where a seat is. -/
def seatPtr (vs : Value) : Option Nat → Option Addr
  | none => none
  | some i => match vs with | .slice (some ⟨g, off, none⟩) _ _ => some ⟨g, off + i * 8, none⟩ | _ => none

set_option maxHeartbeats 800000 in
set_option maxRecDepth 100000 in
theorem seat_any (w : World) (b o : Nat) (h : Host) (F : List Nat) (page : ByteArray) (vs : Value) (H : Here hostR w b o h F) (hvs : w.cell? ⟨b, o + 1, none⟩ = some vs) :
    Calls Try.prog 37 #[.pointer (some ⟨b, o, none⟩), .string page] w fun e w' => e = .returned (.pointer (seatPtr vs (findS page h.seats 0))) ∧ Chg (fun _ => False) w w' := by
  obtain ⟨cs, ⟨vs', vo, F1, F2, rfl, hs, ho, rfl⟩, hcell⟩ := H.cell
  have := hcell 1 _ rfl
  rw [hvs] at this
  cases this
  obtain ⟨xs, Fs, hopen⟩ := Rep.opened hs
  obtain ⟨a, cap, rfl, hc1, hc2⟩ := hopen.val
  have hp := cell_of_block (i := 0) (alloc_block w (.cells #[.string page] 9)) rfl
  have hp : (w.alloc (.cells #[.string page] 9)).cell? ⟨w.heap.size, 0, none⟩ = some (.string page) := hp
  have hchA := Chg.alloc (fun _ => False) w (.cells #[.string page] 9)
  unfold maxLen at hc2
  go_enter Try.func37, Try.ntmps37
  go_upto_region 1 with fail
  generalize hw1 : w.alloc (.cells #[.string page] 9) = w1 at *
  have c1 := hchA.cell hvs
  clear hw1 hcell hvs
  go_wp2_with fail
  refine (indexFunc_any h.seats page w.heap.size _ F1 xs Fs w1 hp (hopen.still hchA)).mono ?_
  rintro e w2 ⟨rfl, hc2'⟩
  have d1 := hc2'.cell c1
  cases hf : findS page h.seats 0 with
  | none =>
    rw [show idxOf none = -1 from rfl]
    go_wp2_with fail
    go_ret
    exact ⟨by rw [hf]; rfl, hchA.trans' hc2'⟩
  | some i =>
    rw [show idxOf (some i) = (i : Int) from rfl]
    have hlt := findS_lt page h.seats 0 i hf
    have hil : i < h.seats.length := by omega
    obtain ⟨g, off, cap', hv, _⟩ := hopen.row.addr (by omega)
    simp only [Value.slice.injEq] at hv
    obtain ⟨rfl, _, rfl⟩ := hv
    have h0 : (0 : Int) ≤ (i : Int) := Int.natCast_nonneg _
    have h3 : (i : Int) < (h.seats.length : Int) := by omega
    go_wp2_with fail
    all_goals first | omega | skip
    go_ret
    exact ⟨by rw [hf]; rfl, hchA.trans' hc2'⟩
end Go.Proofs.Ytkoopagjjmdodaa
