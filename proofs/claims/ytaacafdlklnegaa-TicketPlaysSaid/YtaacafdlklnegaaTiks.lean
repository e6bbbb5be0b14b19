/-
  The bytes of a request: encoder.entry.
-/
import Derived.Test.YtaacafdlklnegaaTikr
import Derived.Test.YtaacafdlklnegaaOwnE
namespace Go.Proofs.Ytaacafdlklnegaa
open Go.RowKit
set_option linter.unusedVariables false

def encO (x : Owner) : List UInt8 := bytesOf x.page ++ encI x.epoch
def encE (x : Entry) : List UInt8 := bytesOf x.page ++ encI x.number ++ bytesOf x.request ++ Kn.enc x.pieces.length ++ x.pieces.flatMap bytesOf ++ encI x.acked ++ bit x.ended ++ bit x.closed
def encS (s : State) : List UInt8 := Kn.enc s.owners.length ++ s.owners.flatMap encO ++ Kn.enc s.entries.length ++ s.entries.flatMap encE
structure EncE (x : Entry) : Prop where
  num : I64 x.number
  ack : I64 x.acked

set_option maxHeartbeats 3200000 in
set_option maxRecDepth 100000 in
theorem encEntry_any (w0 w : World) (b : Nat) (v : Value) (bs : List UInt8) (x : Entry) (vp : Value) (G : List Nat) (hp : (Rep.str.row 9).own w0 [vp] x.pieces G) (h : OwnW w0 w b v bs) (hx : EncE x) (hl : bs.length + (encE x).length ≤ 140737488355328) :
    Calls Try.prog 45 #[.pointer (some ⟨b, 0, none⟩), .agg #[.string x.page, .int .i64 x.number, .string x.request, vp, .int .i64 x.acked, .bool x.ended, .bool x.closed]] w fun e w' => e = .returned (.tuple #[]) ∧ ∃ v', OwnW w0 w' b v' (bs ++ encE x) := by
  obtain ⟨xp, xn, xr, xl, xa, xe, xc⟩ := x
  dsimp only at hp ⊢
  have HX := Lib.hid hx
  have hbits : ∀ t, (bit t).length = 1 := fun t => rfl
  have HLEN : Hid (bs.length + (bytesOf xp).length + (encI xn).length + (bytesOf xr).length + (Kn.enc xl.length).length + (xl.flatMap bytesOf).length + (encI xa).length + 1 + 1 ≤ 140737488355328) := Lib.hid (by
    unfold encE at hl
    simp only [List.length_append, hbits] at hl
    omega)
  have HE : Hid (∀ l, l = bs ++ bytesOf xp ++ encI xn ++ bytesOf xr ++ Kn.enc xl.length ++ xl.flatMap bytesOf ++ encI xa ++ bit xe ++ bit xc → l = bs ++ encE ⟨xp, xn, xr, xl, xa, xe, xc⟩) := Lib.hid (fun l e => by rw [e]; simp [encE])
  generalize encE ⟨xp, xn, xr, xl, xa, xe, xc⟩ = E at *
  have hseen := seen_strs hp
  have HS := Lib.hid hseen
  obtain ⟨pp, pc, rfl, l1, l2, -⟩ := hseen
  rw [List.length_map] at *
  have L1 : (xl.length : Int) ≤ 9223372036854775807 := by unfold maxLen at l2; omega
  have L2 : Hid (xl.length ≤ 9223372036854775807) := Lib.hid (by unfold maxLen at l2; omega)
  have H0 := WB.mk' h #[.string xp, .int .i64 xn, .string xr, .slice pp xl.length pc, .int .i64 xa, .bool xe, .bool xc] 69
  clear hl hx hbits hp l1 l2 h
  go_enter Try.func45, Try.ntmps45
  go_upto_region 1 with fail
  generalize hn : w.heap.size = n at *
  have HN := Lib.hid hn
  clear hn
  generalize w.alloc (.cells #[.string xp, .int .i64 xn, .string xr, .slice pp xl.length pc, .int .i64 xa, .bool xe, .bool xc] 69) = w1 at *
  have hbits : ∀ t, (bit t).length = 1 := fun t => rfl
  have HBT := Lib.hid hbits
  clear hbits
  have D1 := H0.drew
  have c1 := D1.cell 0 rfl
  go_still_tail 5, (by kernel_rfl)
  change wpList _ _ _ _ _ w1.drew
  go_wp2_with fail
  refine (D1.str xp (by have := HLEN.out; omega)).mono ?_
  rintro e w2 ⟨rfl, v2, H2⟩
  clear H0 D1 c1
  go_wp2_with fail
  have D2 := H2.drew
  have c2 := D2.cell 1 rfl
  go_still_tail 5, (by kernel_rfl)
  change wpList _ _ _ _ _ w2.drew
  go_wp2_with fail
  refine (D2.num xn HX.out.num (by have := HLEN.out; have := HBT.out xe; simp only [List.length_append]; omega)).mono ?_
  rintro e w3 ⟨rfl, v3, H3⟩
  clear H2 D2 c2
  go_wp2_with fail
  have D3 := H3.drew
  have c3 := D3.cell 2 rfl
  go_still_tail 5, (by kernel_rfl)
  change wpList _ _ _ _ _ w3.drew
  go_wp2_with fail
  refine (D3.str xr (by have := HLEN.out; have := HBT.out xe; simp only [List.length_append]; omega)).mono ?_
  rintro e w4 ⟨rfl, v4, H4⟩
  clear H3 D3 c3
  go_wp2_with fail
  have D4 := H4.drew
  have c4 := D4.cell 3 rfl
  go_still_tail 6, (by kernel_rfl)
  change wpList _ _ _ _ _ w4.drew
  go_wp2_with fail
  refine (D4.cnt xl.length L2.out (by have := HLEN.out; have := HBT.out xe; simp only [List.length_append]; omega)).mono ?_
  rintro e w5 ⟨rfl, v5, H5⟩
  clear H4 D4 c4
  have c5 := H5.cell 3 rfl
  go_wp2_with fail
  go_loopw [34] (fun i wr => ∃ (k : Nat) (vr : Value), k ≤ xl.length ∧ i = .int .i64 k ∧ WB w0 wr b vr (bs ++ bytesOf xp ++ encI xn ++ bytesOf xr ++ Kn.enc xl.length ++ (xl.take k).flatMap bytesOf) n #[.string xp, .int .i64 xn, .string xr, .slice pp xl.length pc, .int .i64 xa, .bool xe, .bool xc] 69) (fun i _ => xl.length - (intOf i).toNat)
  case atStart => exact ⟨0, v5, Nat.zero_le _, rfl, by simpa using H5⟩
  case round =>
    obtain ⟨k, vr, hk, rfl, HR⟩ := hrel
    clear H5 c5
    by_cases hlt : k < xl.length
    · obtain ⟨g, off, rfl, cp⟩ := HS.out.ptr HR.own.chg (k := k) (u := .string xl[k]) (by simp [hlt])
      have HT : Hid ((xl.take (k + 1)).flatMap bytesOf = (xl.take k).flatMap bytesOf ++ bytesOf xl[k]) := Lib.hid (by rw [List.take_succ_eq_append_getElem hlt, List.flatMap_append]; simp)
      have HLT2 : Hid (((xl.take k).flatMap bytesOf).length + (bytesOf xl[k]).length ≤ (xl.flatMap bytesOf).length) := Lib.hid (by
        have h1 := congrArg List.length HT.out
        rw [List.length_append] at h1
        rw [← h1]
        conv => rhs; rw [← List.take_append_drop (k + 1) xl, List.flatMap_append, List.length_append]
        omega)
      have h0 : (0 : Int) ≤ (k : Int) := Int.natCast_nonneg _
      have h1 : (k : Int) < (xl.length : Int) := by omega
      generalize xl[k] = y at *
      go_wp2_with fail
      refine (HR.str y (by have := HLEN.out; have := HLT2.out; simp only [List.length_append]; omega)).mono ?_
      rintro e w6 ⟨rfl, v6, H6⟩
      rw [List.append_assoc, ← HT.out] at H6
      clear HR cp
      go_wp2_with fail
      go_roundw
      case rel => exact ⟨k + 1, v6, by omega, by go_num, H6⟩
      case measure => simp [intOf]; omega
    · obtain rfl : k = xl.length := by omega
      rw [List.take_length] at HR
      go_wp2_with fail
      have D7 := HR.drew
      have c7 := D7.cell 4 rfl
      go_still_tail 5, (by kernel_rfl)
      change wpList _ _ _ _ _ wr.drew
      go_wp2_with fail
      refine (D7.num xa HX.out.ack (by have := HLEN.out; have := HBT.out xe; simp only [List.length_append]; omega)).mono ?_
      rintro e w8 ⟨rfl, v8, H8⟩
      clear HR D7 c7
      go_wp2_with fail
      have D8 := H8.drew
      have c8 := D8.cell 5 rfl
      go_still_tail 5, (by kernel_rfl)
      change wpList _ _ _ _ _ w8.drew
      go_wp2_with fail
      refine (D8.truth xe (by have := HLEN.out; have := HBT.out xe; simp only [List.length_append]; omega)).mono ?_
      rintro e w9 ⟨rfl, v9, H9⟩
      clear H8 D8 c8
      go_wp2_with fail
      have D9 := H9.drew
      have c9 := D9.cell 6 rfl
      go_still_tail 5, (by kernel_rfl)
      change wpList _ _ _ _ _ w9.drew
      go_wp2_with fail
      refine (D9.truth xc (by have := HLEN.out; have := HBT.out xe; simp only [List.length_append]; omega)).mono ?_
      rintro e w10 ⟨rfl, v10, H10⟩
      clear H9 D9 c9
      go_wp2_with fail
      go_end0
      exact ⟨rfl, v10, by have h := H10.own; rw [HE.out _ rfl] at h; exact h⟩
end Go.Proofs.Ytaacafdlklnegaa
