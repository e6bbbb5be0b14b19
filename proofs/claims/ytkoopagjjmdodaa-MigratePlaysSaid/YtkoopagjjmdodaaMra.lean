/-
  The machine of layer 54, receiving: the small functions (known, free, from, reset, answer), and the library's Index and Contains.
-/
import Derived.Test.YtkoopagjjmdodaaMigh
import Derived.Test.YtkoopagjjmdodaaMigi
import Derived.Test.YtkoopagjjmdodaaSeen
import Derived.Test.YtkoopagjjmdodaaHeldT
namespace Go.Proofs.Ytkoopagjjmdodaa
open Go.RowKit
set_option linter.unusedVariables false
set_option linter.unusedSimpArgs false

def findI (n : Int) : List Int → Nat → Option Nat
  | [], _ => none
  | x :: l, k => if (n == x) = true then some k else findI n l (k + 1)
def findB (n : Bool) : List Bool → Nat → Option Nat
  | [], _ => none
  | x :: l, k => if (n == x) = true then some k else findB n l (k + 1)
theorem idxOf_nonneg (r : Option Nat) : decide (0 ≤ idxOf r) = r.isSome := by
  cases r with
  | none => rfl
  | some k => simp [idxOf]
theorem findI_some (n : Int) : ∀ (l : List Int) (k : Nat), (findI n l k).isSome = l.contains n
  | [], _ => rfl
  | x :: l, k => by
    rw [findI, List.contains_cons]
    cases hc : n == x with
    | true => simp
    | false => simp [findI_some n l (k + 1)]
theorem findB_some (n : Bool) : ∀ (l : List Bool) (k : Nat), (findB n l k).isSome = l.contains n
  | [], _ => rfl
  | x :: l, k => by
    rw [findB, List.contains_cons]
    cases hc : n == x with
    | true => simp
    | false => simp [findB_some n l (k + 1)]

set_option maxHeartbeats 1600000 in
set_option maxRecDepth 100000 in
theorem index_int (w : World) (v : Value) (l : List Int) (n : Int) (hs : Seen w v (l.map (Value.int .i64))) :
    Calls Try.prog 75 #[v, .int .i64 n] w fun e w' => e = .returned (.int .i64 (idxOf (findI n l 0))) ∧ w = w' := by
  have HS := Lib.hid hs
  obtain ⟨p, cap, rfl, h1, h2, -⟩ := hs
  rw [List.length_map] at *
  have hln : (l.length : Int) ≤ 9223372036854775807 := by unfold maxLen at h2; omega
  clear h1 h2
  go_enter Try.func75, Try.ntmps75
  go_wp2_with fail
  go_loop [8] (fun i => ∃ k : Nat, k ≤ l.length ∧ i = .int .i64 k ∧ Hid (findI n l 0 = findI n (l.drop k) k)) (fun i => l.length - (intOf i).toNat)
  case atStart => exact ⟨0, Nat.zero_le _, rfl, rfl⟩
  case round =>
    obtain ⟨k, hk, rfl, HF⟩ := hrel
    by_cases hlt : k < l.length
    · obtain ⟨g, off, rfl, x1⟩ := HS.out.ptr (.refl _ _) (k := k) (u := .int .i64 l[k]) (by simp [hlt])
      have hF := HF.out
      rw [List.drop_eq_getElem_cons hlt, findI] at hF
      have h0 : (0 : Int) ≤ (k : Int) := Int.natCast_nonneg _
      have h1 : (k : Int) < (l.length : Int) := by omega
      generalize l[k] = z at *
      cases hq : n == z
      · rw [hq, if_neg (by simp)] at hF
        have HF2 := Lib.hid hF
        clear hF HF
        go_wp2_with fail
        go_round
        case rel => exact ⟨k + 1, by omega, by go_num, HF2⟩
        case measure => simp [intOf]; omega
      · rw [hq, if_pos rfl] at hF
        have HF2 := Lib.hid hF
        clear hF HF
        go_wp2_with fail
        go_ret
        exact ⟨by rw [HF2.out]; rfl, rfl⟩
    · have hF := HF.out
      rw [List.drop_of_length_le (by omega), findI] at hF
      have HF2 := Lib.hid hF
      clear hF HF
      go_wp2_with fail
      go_ret
      exact ⟨by rw [HF2.out]; rfl, rfl⟩
set_option maxHeartbeats 1600000 in
set_option maxRecDepth 100000 in
theorem index_bool (w : World) (v : Value) (l : List Bool) (n : Bool) (hs : Seen w v (l.map Value.bool)) :
    Calls Try.prog 76 #[v, .bool n] w fun e w' => e = .returned (.int .i64 (idxOf (findB n l 0))) ∧ w = w' := by
  have HS := Lib.hid hs
  obtain ⟨p, cap, rfl, h1, h2, -⟩ := hs
  rw [List.length_map] at *
  have hln : (l.length : Int) ≤ 9223372036854775807 := by unfold maxLen at h2; omega
  clear h1 h2
  go_enter Try.func76, Try.ntmps76
  go_wp2_with fail
  go_loop [8] (fun i => ∃ k : Nat, k ≤ l.length ∧ i = .int .i64 k ∧ Hid (findB n l 0 = findB n (l.drop k) k)) (fun i => l.length - (intOf i).toNat)
  case atStart => exact ⟨0, Nat.zero_le _, rfl, rfl⟩
  case round =>
    obtain ⟨k, hk, rfl, HF⟩ := hrel
    by_cases hlt : k < l.length
    · obtain ⟨g, off, rfl, x1⟩ := HS.out.ptr (.refl _ _) (k := k) (u := .bool l[k]) (by simp [hlt])
      have hF := HF.out
      rw [List.drop_eq_getElem_cons hlt, findB] at hF
      have h0 : (0 : Int) ≤ (k : Int) := Int.natCast_nonneg _
      have h1 : (k : Int) < (l.length : Int) := by omega
      generalize l[k] = z at *
      cases hq : n == z
      · rw [hq, if_neg (by simp)] at hF
        have HF2 := Lib.hid hF
        clear hF HF
        go_wp2_with fail
        go_round
        case rel => exact ⟨k + 1, by omega, by go_num, HF2⟩
        case measure => simp [intOf]; omega
      · rw [hq, if_pos rfl] at hF
        have HF2 := Lib.hid hF
        clear hF HF
        go_wp2_with fail
        go_ret
        exact ⟨by rw [HF2.out]; rfl, rfl⟩
    · have hF := HF.out
      rw [List.drop_of_length_le (by omega), findB] at hF
      have HF2 := Lib.hid hF
      clear hF HF
      go_wp2_with fail
      go_ret
      exact ⟨by rw [HF2.out]; rfl, rfl⟩
theorem contains_int (w : World) (v : Value) (l : List Int) (n : Int) (hs : Seen w v (l.map (Value.int .i64))) :
    Calls Try.prog 69 #[v, .int .i64 n] w fun e w' => e = .returned (.bool (l.contains n)) ∧ w = w' := by
  have hd := (idxOf_nonneg (findI n l 0)).trans (findI_some n l 0)
  have HS := Lib.hid hs
  obtain ⟨p, cap, rfl, -⟩ := hs
  rw [List.length_map] at *
  generalize l.contains n = c at *
  go_enter Try.func69, Try.ntmps69
  go_wp2_with fail
  refine (index_int _ _ l n HS.out).mono ?_
  rintro e w1 ⟨rfl, rfl⟩
  generalize idxOf (findI n l 0) = z at *
  go_wp2_with fail
  go_ret
  exact ⟨rfl, rfl⟩
theorem contains_bool (w : World) (v : Value) (l : List Bool) (n : Bool) (hs : Seen w v (l.map Value.bool)) :
    Calls Try.prog 73 #[v, .bool n] w fun e w' => e = .returned (.bool (l.contains n)) ∧ w = w' := by
  have hd := (idxOf_nonneg (findB n l 0)).trans (findB_some n l 0)
  have HS := Lib.hid hs
  obtain ⟨p, cap, rfl, -⟩ := hs
  rw [List.length_map] at *
  generalize l.contains n = c at *
  go_enter Try.func73, Try.ntmps73
  go_wp2_with fail
  refine (index_bool _ _ l n HS.out).mono ?_
  rintro e w1 ⟨rfl, rfl⟩
  generalize idxOf (findB n l 0) = z at *
  go_wp2_with fail
  go_ret
  exact ⟨rfl, rfl⟩

set_option maxHeartbeats 1600000 in
set_option maxRecDepth 100000 in
theorem answer_any (w : World) (b o : Nat) (id : Int) (out : List Msg) (G : List Nat) (m : Msg) (kd : Int) (hid : w.cell? ⟨b, o, none⟩ = some (.int .i64 id)) (H : Here outR w b (o + 2) out G) (hl : Few out.length) :
    Calls Try.prog 57 #[.pointer (some ⟨b, o, none⟩), .agg m.cells.toArray, .int .i64 kd] w fun e w' => e = .returned (.tuple #[]) ∧ PutPost w b o (out ++ [⟨kd, id, m.frm, m.page, m.epoch, 0, 0, ⟨#[]⟩⟩]) G w' := by
  unfold Msg.cells
  have hch1 := Chg.alloc (fun _ => False) w (.cells #[.int .i64 m.kind, .int .i64 m.frm, .int .i64 m.dst, .string m.page, .int .i64 m.epoch, .int .i64 m.index, .int .i64 m.count, .string m.data] 39)
  have H1 := H.still hch1
  have hid1 := hch1.cell hid
  go_enter Try.func57, Try.ntmps57
  go_wp2_with fail
  refine (put_any _ b o id out G ⟨kd, 0, m.frm, m.page, m.epoch, 0, 0, ⟨#[]⟩⟩ hid1 H1 hl).mono ?_
  rintro e w2 ⟨rfl, G2, h2, hs2⟩
  go_wp2_with fail
  go_end0
  exact ⟨rfl, G2, h2, (Step.ofChg hch1).trans hs2⟩

def knownM (s : Seat) (epoch : Int) : Int :=
  if s.refuses.contains epoch = true then 6 else if (s.state == 1 || s.state == 2 || s.state == 3 || s.state == 5) = true ∧ epoch ≤ s.epoch then 4 else 0
def freeM (s : Seat) : Bool := s.state == 0 || s.state == 5
def fromB (s : Seat) (m : Msg) : Bool := s.state == 4 && s.epoch == m.epoch && s.peer == m.frm
def resetS (s : Seat) (state epoch : Int) : Seat := { s with state := state, epoch := epoch, peer := 0, parts := [], have_ := [] }
end Go.Proofs.Ytkoopagjjmdodaa
