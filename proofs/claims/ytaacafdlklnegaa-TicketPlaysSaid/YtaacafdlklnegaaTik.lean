/-
  The network's side of layer 53 in memory: owners, requests; the searches.
-/
import Derived.Test.YtaacafdlklnegaaProg
import Derived.Test.YtaacafdlklnegaaHoldd
import Derived.WalkKit
import Derived.WalkSpells
import Derived.WalkLawsBesides
import Derived.Lib.Hide
import Derived.Deep.QuietTactic
import Derived.BigQuiet
import Derived.Deep.DeepCutAuto
import Derived.Deep.CutBlock
import Derived.Laws.StructEq
namespace Go.Proofs.Ytaacafdlklnegaa
open Go.RowKit
set_option linter.unusedVariables false

structure Owner where
  page : ByteArray
  epoch : Int
def Owner.cells (s : Owner) : List Value := [.string s.page, .int .i64 s.epoch]
theorem Owner.len (s : Owner) : s.cells.length = 2 := rfl
def ownerR : Rep Owner := Rep.flat 2 Owner.cells Owner.len
theorem ownerR_page : FieldOf ownerR Rep.str 0 (·.page) (fun s y => { s with page := y }) := by
  refine ⟨by show 0 + 1 ≤ 2; omega, ?_⟩
  rintro w cs s F ⟨rfl, rfl⟩
  exact ⟨[], [], [], rfl, ⟨rfl, rfl⟩, fun w2 ys y G hk hy => by obtain ⟨rfl, rfl⟩ := hy; exact ⟨rfl, rfl⟩⟩
theorem ownerR_epoch : FieldOf ownerR (Rep.int .i64) 1 (·.epoch) (fun s y => { s with epoch := y }) := by
  refine ⟨by show 1 + 1 ≤ 2; omega, ?_⟩
  rintro w cs s F ⟨rfl, rfl⟩
  exact ⟨[], [], [], rfl, ⟨rfl, rfl⟩, fun w2 ys y G hk hy => by obtain ⟨rfl, rfl⟩ := hy; exact ⟨rfl, rfl⟩⟩
structure Entry where
  page : ByteArray
  number : Int
  request : ByteArray
  pieces : List ByteArray
  acked : Int
  ended : Bool
  closed : Bool
def Entry.Own (w : World) (cs : List Value) (s : Entry) (F : List Nat) : Prop :=
  ∃ vpieces, ∃ Fpieces, cs = [.string s.page, .int .i64 s.number, .string s.request, vpieces, .int .i64 s.acked, .bool s.ended, .bool s.closed] ∧ ((Rep.str).row 9).own w [vpieces] s.pieces Fpieces ∧ F = Fpieces
def entryR : Rep Entry where
  n := 7
  own := Entry.Own
  len := by rintro w cs s F ⟨vpieces, _, rfl, hpieces, rfl⟩; rfl
  lt := by
    rintro w cs s F ⟨vpieces, _, rfl, hpieces, rfl⟩ k hk
    · exact ((Rep.str).row 9).lt hpieces k hk
  keep := by
    rintro w w2 cs s F ⟨vpieces, _, rfl, hpieces, rfl⟩ hk
    exact ⟨_, _, rfl, ((Rep.str).row 9).keep hpieces (fun k hm => hk k (by simp [hm])), rfl⟩
theorem entryR_page : FieldOf entryR Rep.str 0 (·.page) (fun s y => { s with page := y }) := by
  refine ⟨by show 0 + 1 ≤ 7; omega, ?_⟩
  rintro w cs s F ⟨vpieces, _, rfl, hpieces, rfl⟩
  refine ⟨F, [], [], by simp, ⟨rfl, rfl⟩, fun w2 ys y G hk hy => ?_⟩
  obtain ⟨rfl, rfl⟩ := hy
  exact ⟨_, _, rfl, ((Rep.str).row 9).keep hpieces (fun k hm => hk k (by simp [hm])), by simp⟩
theorem entryR_number : FieldOf entryR (Rep.int .i64) 1 (·.number) (fun s y => { s with number := y }) := by
  refine ⟨by show 1 + 1 ≤ 7; omega, ?_⟩
  rintro w cs s F ⟨vpieces, _, rfl, hpieces, rfl⟩
  refine ⟨F, [], [], by simp, ⟨rfl, rfl⟩, fun w2 ys y G hk hy => ?_⟩
  obtain ⟨rfl, rfl⟩ := hy
  exact ⟨_, _, rfl, ((Rep.str).row 9).keep hpieces (fun k hm => hk k (by simp [hm])), by simp⟩
theorem entryR_request : FieldOf entryR Rep.str 2 (·.request) (fun s y => { s with request := y }) := by
  refine ⟨by show 2 + 1 ≤ 7; omega, ?_⟩
  rintro w cs s F ⟨vpieces, _, rfl, hpieces, rfl⟩
  refine ⟨F, [], [], by simp, ⟨rfl, rfl⟩, fun w2 ys y G hk hy => ?_⟩
  obtain ⟨rfl, rfl⟩ := hy
  exact ⟨_, _, rfl, ((Rep.str).row 9).keep hpieces (fun k hm => hk k (by simp [hm])), by simp⟩
theorem entryR_pieces : FieldOf entryR ((Rep.str).row 9) 3 (·.pieces) (fun s y => { s with pieces := y }) := by
  refine ⟨by show 3 + 1 ≤ 7; omega, ?_⟩
  rintro w cs s F ⟨vpieces, _, rfl, hpieces, rfl⟩
  refine ⟨[], F, [], by simp, hpieces, fun w2 ys y G hk hy => ?_⟩
  obtain ⟨y0, rfl⟩ : ∃ y0, ys = [y0] := List.length_eq_one_iff.1 (((Rep.str).row 9).len hy)
  exact ⟨_, G, rfl, hy, by simp⟩
theorem entryR_acked : FieldOf entryR (Rep.int .i64) 4 (·.acked) (fun s y => { s with acked := y }) := by
  refine ⟨by show 4 + 1 ≤ 7; omega, ?_⟩
  rintro w cs s F ⟨vpieces, _, rfl, hpieces, rfl⟩
  refine ⟨F, [], [], by simp, ⟨rfl, rfl⟩, fun w2 ys y G hk hy => ?_⟩
  obtain ⟨rfl, rfl⟩ := hy
  exact ⟨_, _, rfl, ((Rep.str).row 9).keep hpieces (fun k hm => hk k (by simp [hm])), by simp⟩
theorem entryR_ended : FieldOf entryR Rep.bool 5 (·.ended) (fun s y => { s with ended := y }) := by
  refine ⟨by show 5 + 1 ≤ 7; omega, ?_⟩
  rintro w cs s F ⟨vpieces, _, rfl, hpieces, rfl⟩
  refine ⟨F, [], [], by simp, ⟨rfl, rfl⟩, fun w2 ys y G hk hy => ?_⟩
  obtain ⟨rfl, rfl⟩ := hy
  exact ⟨_, _, rfl, ((Rep.str).row 9).keep hpieces (fun k hm => hk k (by simp [hm])), by simp⟩
theorem entryR_closed : FieldOf entryR Rep.bool 6 (·.closed) (fun s y => { s with closed := y }) := by
  refine ⟨by show 6 + 1 ≤ 7; omega, ?_⟩
  rintro w cs s F ⟨vpieces, _, rfl, hpieces, rfl⟩
  refine ⟨F, [], [], by simp, ⟨rfl, rfl⟩, fun w2 ys y G hk hy => ?_⟩
  obtain ⟨rfl, rfl⟩ := hy
  exact ⟨_, _, rfl, ((Rep.str).row 9).keep hpieces (fun k hm => hk k (by simp [hm])), by simp⟩
structure State where
  owners : List Owner
  entries : List Entry
  sent : List ByteArray
def State.Own (w : World) (cs : List Value) (s : State) (F : List Nat) : Prop :=
  ∃ vowners ventries vsent, ∃ Fowners Fentries Fsent, cs = [vowners, ventries, vsent] ∧ ((ownerR).row 67).own w [vowners] s.owners Fowners ∧ ((entryR).row 69).own w [ventries] s.entries Fentries ∧ ((Rep.str).row 9).own w [vsent] s.sent Fsent ∧ F = Fowners ++ Fentries ++ Fsent
def stateR : Rep State where
  n := 3
  own := State.Own
  len := by rintro w cs s F ⟨vowners, ventries, vsent, Fowners, Fentries, Fsent, rfl, howners, hentries, hsent, rfl⟩; rfl
  lt := by
    rintro w cs s F ⟨vowners, ventries, vsent, Fowners, Fentries, Fsent, rfl, howners, hentries, hsent, rfl⟩ k hk
    simp only [List.mem_append] at hk
    rcases hk with (hk | hk) | hk
    · exact ((ownerR).row 67).lt howners k hk
    · exact ((entryR).row 69).lt hentries k hk
    · exact ((Rep.str).row 9).lt hsent k hk
  keep := by
    rintro w w2 cs s F ⟨vowners, ventries, vsent, Fowners, Fentries, Fsent, rfl, howners, hentries, hsent, rfl⟩ hk
    exact ⟨_, _, _, _, _, _, rfl, ((ownerR).row 67).keep howners (fun k hm => hk k (by simp [hm])), ((entryR).row 69).keep hentries (fun k hm => hk k (by simp [hm])), ((Rep.str).row 9).keep hsent (fun k hm => hk k (by simp [hm])), rfl⟩
theorem stateR_owners : FieldOf stateR ((ownerR).row 67) 0 (·.owners) (fun s y => { s with owners := y }) := by
  refine ⟨by show 0 + 1 ≤ 3; omega, ?_⟩
  rintro w cs s F ⟨vowners, ventries, vsent, Fowners, Fentries, Fsent, rfl, howners, hentries, hsent, rfl⟩
  refine ⟨[], Fowners, Fentries ++ Fsent, by simp, howners, fun w2 ys y G hk hy => ?_⟩
  obtain ⟨y0, rfl⟩ : ∃ y0, ys = [y0] := List.length_eq_one_iff.1 (((ownerR).row 67).len hy)
  exact ⟨_, _, _, G, Fentries, Fsent, rfl, hy, ((entryR).row 69).keep hentries (fun k hm => hk k (by simp [hm])), ((Rep.str).row 9).keep hsent (fun k hm => hk k (by simp [hm])), by simp⟩
theorem stateR_entries : FieldOf stateR ((entryR).row 69) 1 (·.entries) (fun s y => { s with entries := y }) := by
  refine ⟨by show 1 + 1 ≤ 3; omega, ?_⟩
  rintro w cs s F ⟨vowners, ventries, vsent, Fowners, Fentries, Fsent, rfl, howners, hentries, hsent, rfl⟩
  refine ⟨Fowners, Fentries, Fsent, by simp, hentries, fun w2 ys y G hk hy => ?_⟩
  obtain ⟨y0, rfl⟩ : ∃ y0, ys = [y0] := List.length_eq_one_iff.1 (((entryR).row 69).len hy)
  exact ⟨_, _, _, Fowners, G, Fsent, rfl, ((ownerR).row 67).keep howners (fun k hm => hk k (by simp [hm])), hy, ((Rep.str).row 9).keep hsent (fun k hm => hk k (by simp [hm])), by simp⟩
theorem stateR_sent : FieldOf stateR ((Rep.str).row 9) 2 (·.sent) (fun s y => { s with sent := y }) := by
  refine ⟨by show 2 + 1 ≤ 3; omega, ?_⟩
  rintro w cs s F ⟨vowners, ventries, vsent, Fowners, Fentries, Fsent, rfl, howners, hentries, hsent, rfl⟩
  refine ⟨Fowners ++ Fentries, Fsent, [], by simp, hsent, fun w2 ys y G hk hy => ?_⟩
  obtain ⟨y0, rfl⟩ : ∃ y0, ys = [y0] := List.length_eq_one_iff.1 (((Rep.str).row 9).len hy)
  exact ⟨_, _, _, Fowners, Fentries, G, rfl, ((ownerR).row 67).keep howners (fun k hm => hk k (by simp [hm])), ((entryR).row 69).keep hentries (fun k hm => hk k (by simp [hm])), hy, by simp⟩

def findO (page : ByteArray) : List Owner → Nat → Option Nat
  | [], _ => none
  | s :: l, k => if (s.page.toList == page.toList) = true then some k else findO page l (k + 1)
def findE (page : ByteArray) (n : Int) : List Entry → Nat → Option Nat
  | [], _ => none
  | s :: l, k => if ((s.page.toList == page.toList) && (s.number == n)) = true then some k else findE page n l (k + 1)
theorem findO_lt (page : ByteArray) : ∀ (l : List Owner) (k i : Nat), findO page l k = some i → k ≤ i ∧ i < k + l.length
  | [], _, _, h => by simp [findO] at h
  | s :: l, k, i, h => by
    rw [findO] at h
    split at h
    · simp at h; subst h; simp
    · have := findO_lt page l (k + 1) i h
      simp only [List.length_cons]; omega
theorem findE_lt (page : ByteArray) (n : Int) : ∀ (l : List Entry) (k i : Nat), findE page n l k = some i → k ≤ i ∧ i < k + l.length
  | [], _, _, h => by simp [findE] at h
  | s :: l, k, i, h => by
    rw [findE] at h
    split at h
    · simp at h; subst h; simp
    · have := findE_lt page n l (k + 1) i h
      simp only [List.length_cons]; omega

set_option maxHeartbeats 400000 in
theorem named_any (page : ByteArray) (w : World) (hs : page.size ≤ 9223372036854775807) :
    Calls Try.prog 29 #[.string page] w fun e w' => e = .returned (.bool (decide (1 ≤ page.size ∧ page.size ≤ 200))) ∧ w = w' := by
  by_cases h1 : 1 ≤ page.size
  · have hd : decide ((1 : Int) ≤ (page.size : Int)) = true := by simp; omega
    go_enter Try.func29, Try.ntmps29
    go_wp2_with fail
    go_ret
    refine ⟨?_, rfl⟩
    show Ending.returned (.bool _) = _
    congr 2
    simp [h1]
    omega
  · have hd : decide ((1 : Int) ≤ (page.size : Int)) = false := by simp; omega
    go_enter Try.func29, Try.ntmps29
    go_wp2_with fail
    go_ret
    refine ⟨?_, rfl⟩
    show Ending.returned (.bool _) = _
    congr 2
    simp [h1]

theorem stateCells {w : World} {b o : Nat} {s : State} {F : List Nat} (H : Here stateR w b o s F) : ∃ v0 v1 v2, w.cell? ⟨b, o, none⟩ = some v0 ∧ w.cell? ⟨b, o + 1, none⟩ = some v1 ∧ w.cell? ⟨b, o + 2, none⟩ = some v2 ∧ ∃ F0 F1 F2, (ownerR.row 67).own w [v0] s.owners F0 ∧ (entryR.row 69).own w [v1] s.entries F1 ∧ (Rep.str.row 9).own w [v2] s.sent F2 ∧ F = F0 ++ F1 ++ F2 := by
  obtain ⟨cs, ⟨v0, v1, v2, F0, F1, F2, rfl, h0, h1, h2, h3⟩, hc⟩ := H.cell
  exact ⟨v0, v1, v2, hc 0 _ rfl, hc 1 _ rfl, hc 2 _ rfl, F0, F1, F2, h0, h1, h2, h3⟩

set_option maxHeartbeats 1600000 in
set_option maxRecDepth 100000 in
theorem owner_any (w : World) (b o : Nat) (s : State) (F : List Nat) (page : ByteArray) (v : Value) (H : Here stateR w b o s F) (hv : w.cell? ⟨b, o, none⟩ = some v) :
    Calls Try.prog 30 #[.pointer (some ⟨b, o, none⟩), .string page] w fun e w' => e = .returned (.pointer (rowPtr v 2 (findO page s.owners 0))) ∧ w = w' := by
  obtain ⟨v0, _, _, c0, _, _, F0, F1, F2, h0, -⟩ := stateCells H
  rw [hv] at c0
  cases c0
  obtain ⟨xs, Fs, hopen⟩ := Rep.opened h0
  obtain ⟨a, cap, rfl, hc1, hc2⟩ := hopen.val
  unfold maxLen at hc2
  go_enter Try.func30, Try.ntmps30
  go_wp2_with fail
  go_loop [5, 11] (fun _ i => ∃ k : Nat, k ≤ s.owners.length ∧ i = .int .i64 k ∧ Hid (findO page s.owners 0 = findO page (s.owners.drop k) k)) (fun _ i => s.owners.length - (intOf i).toNat)
  case atStart => exact ⟨0, Nat.zero_le _, rfl, rfl⟩
  case round =>
    obtain ⟨k, hk, rfl, HF⟩ := hrel
    by_cases hlt : k < s.owners.length
    · obtain ⟨g, off, cap', hv', _, _, _, _, hat⟩ := hopen.at (by omega)
      simp only [Value.slice.injEq] at hv'
      obtain ⟨rfl, _, rfl⟩ := hv'
      obtain ⟨x, G, ⟨rfl, _⟩, _, hcells⟩ := hat k hlt
      have c0 := hcells 0 _ rfl
      change w.cell? ⟨g, off + k * 2 + 0, none⟩ = some (.string s.owners[k].page) at c0
      rw [Nat.add_zero] at c0
      have hF := HF.out
      rw [List.drop_eq_getElem_cons hlt, findO] at hF
      have h0' : (0 : Int) ≤ (k : Int) := Int.natCast_nonneg _
      have h3 : (k : Int) < (s.owners.length : Int) := by omega
      clear hcells hat
      by_cases hq : (s.owners[k].page.toList == page.toList) = true
      · rw [if_pos hq] at hF
        have HF2 := Lib.hid hF
        clear hF HF
        go_wp2_with fail
        go_ret
        exact ⟨by rw [HF2.out]; rfl, rfl⟩
      · rw [if_neg hq] at hF
        rw [Bool.not_eq_true] at hq
        have HF2 := Lib.hid hF
        clear hF HF
        go_wp2_with fail
        go_round
        case rel => exact ⟨k + 1, by omega, by go_num, HF2⟩
        case measure => simp [intOf]; omega
    · have hF := HF.out
      rw [List.drop_of_length_le (by omega), findO] at hF
      have HF2 := Lib.hid hF
      clear hF HF
      go_wp2_with fail
      go_ret
      exact ⟨by rw [HF2.out]; rfl, rfl⟩

set_option maxHeartbeats 1600000 in
set_option maxRecDepth 100000 in
theorem entry_any (w : World) (b o : Nat) (s : State) (F : List Nat) (page : ByteArray) (n : Int) (v : Value) (H : Here stateR w b o s F) (hv : w.cell? ⟨b, o + 1, none⟩ = some v) :
    Calls Try.prog 31 #[.pointer (some ⟨b, o, none⟩), .string page, .int .i64 n] w fun e w' => e = .returned (.pointer (rowPtr v 7 (findE page n s.entries 0))) ∧ w = w' := by
  obtain ⟨_, v1, _, _, c0, _, F0, F1, F2, _, h0, -⟩ := stateCells H
  rw [hv] at c0
  cases c0
  obtain ⟨xs, Fs, hopen⟩ := Rep.opened h0
  obtain ⟨a, cap, rfl, hc1, hc2⟩ := hopen.val
  unfold maxLen at hc2
  go_enter Try.func31, Try.ntmps31
  go_wp2_with fail
  go_loop [7, 8, 14] (fun _ _ i => ∃ k : Nat, k ≤ s.entries.length ∧ i = .int .i64 k ∧ Hid (findE page n s.entries 0 = findE page n (s.entries.drop k) k)) (fun _ _ i => s.entries.length - (intOf i).toNat)
  case atStart => exact ⟨0, Nat.zero_le _, rfl, rfl⟩
  case round =>
    obtain ⟨k, hk, rfl, HF⟩ := hrel
    by_cases hlt : k < s.entries.length
    · obtain ⟨g, off, cap', hv', _, _, _, _, hat⟩ := hopen.at (by omega)
      simp only [Value.slice.injEq] at hv'
      obtain ⟨rfl, _, rfl⟩ := hv'
      obtain ⟨x, G, ⟨vp, Fp, rfl, _, _⟩, _, hcells⟩ := hat k hlt
      have c0 := hcells 0 _ rfl
      have c1 := hcells 1 _ rfl
      change w.cell? ⟨g, off + k * 7 + 0, none⟩ = some (.string s.entries[k].page) at c0
      change w.cell? ⟨g, off + k * 7 + 1, none⟩ = some (.int .i64 s.entries[k].number) at c1
      rw [Nat.add_zero] at c0
      have hF := HF.out
      rw [List.drop_eq_getElem_cons hlt, findE] at hF
      have h0' : (0 : Int) ≤ (k : Int) := Int.natCast_nonneg _
      have h3 : (k : Int) < (s.entries.length : Int) := by omega
      clear hcells hat
      by_cases hq : (s.entries[k].page.toList == page.toList) = true
      · by_cases hn : (s.entries[k].number == n) = true
        · rw [if_pos (by rw [hq, hn]; rfl)] at hF
          have HF2 := Lib.hid hF
          clear hF HF
          go_wp2_with fail
          go_ret
          exact ⟨by rw [HF2.out]; rfl, rfl⟩
        · rw [if_neg (by rw [hq]; simpa using hn)] at hF
          rw [Bool.not_eq_true] at hn
          have HF2 := Lib.hid hF
          clear hF HF
          go_wp2_with fail
          go_round
          case rel => exact ⟨k + 1, by omega, by go_num, HF2⟩
          case measure => simp [intOf]; omega
      · rw [if_neg (by simp only [Bool.and_eq_true, not_and]; intro h; exact absurd h hq)] at hF
        rw [Bool.not_eq_true] at hq
        have HF2 := Lib.hid hF
        clear hF HF
        go_wp2_with fail
        go_round
        case rel => exact ⟨k + 1, by omega, by go_num, HF2⟩
        case measure => simp [intOf]; omega
    · have hF := HF.out
      rw [List.drop_of_length_le (by omega), findE] at hF
      have HF2 := Lib.hid hF
      clear hF HF
      go_wp2_with fail
      go_ret
      exact ⟨by rw [HF2.out]; rfl, rfl⟩
end Go.Proofs.Ytaacafdlklnegaa
