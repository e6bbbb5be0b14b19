/-
  CodecNumbers: numbers, integers, truth values and lengths are written as specified, one behind the other, and read again, for every input.
-/
import Derived.Test.YtehdimblkaefhaaLaw
import Derived.Test.YtehdimblkaefhaaOwn
import Derived.Test.YtehdimblkaefhaaOpen
namespace Go.Proofs.Ytehdimblkaefhaa
open Go.ChangeShapes Go.WideShapes Go.ChangeAt Go.RowKit
open Go.ChangeMaps (open_string shut_string)
set_option linter.unusedVariables false

theorem str_add (W : World) (a b : ByteArray) (h : a.size + b.size ≤ 9223372036854775807) : (Op.stringOp .add a b).run Try.prog W = .ok (.string (a ++ b)) W := run_string_add_sum (P := Try.prog) W a b h
theorem enc_size {n : Nat} (h : n < 18446744073709551616) : (⟨(Kn.enc n).toArray⟩ : ByteArray).size ≤ 10 := by
  show (Kn.enc n).toArray.size ≤ 10
  rw [List.size_toArray]; exact Kn.enc_len10 h

set_option maxHeartbeats 3200000 in
set_option maxRecDepth 100000 in
theorem codecNumbers_walk (u0 u1 : Nat) (n0 n1 c : Int) (w : World) (hu0 : u0 < 18446744073709551616) (hu1 : u1 < 18446744073709551616)
    (hn0 : -9223372036854775808 ≤ n0 ∧ n0 < 9223372036854775808) (hn1 : -9223372036854775808 ≤ n1 ∧ n1 < 9223372036854775808) (hcc : -9223372036854775808 ≤ c ∧ c < 9223372036854775808) :
    Calls Try.prog 9 #[.agg #[.int .u64 u0, .int .u64 u1], .agg #[.int .i64 n0, .int .i64 n1], .int .i64 c] w fun e w' => e = .returned (.bool true) ∧ Below w.heap.size w w' := by
  have hl0 := Kn.enc_len10 hu0
  have hl1 := Kn.enc_len10 hu1
  have hz0 := Kn.zig_lt hn0.1 hn0.2
  have hz1 := Kn.zig_lt hn1.1 hn1.2
  have hl2 := Kn.enc_len10 hz0
  have hl3 := Kn.enc_len10 hz1
  have hl4 := Kn.enc_len10 (n := c.toNat) (by omega)
  go_enter Try.func9, Try.ntmps9
  go_wp2_with fail
  have hA : ((w.alloc (.cells #[.int .u64 u0, .int .u64 u1] 54)).alloc (.cells #[.int .i64 n0, .int .i64 n1] 55)).heap[w.heap.size]? = some (.cells #[.int .u64 u0, .int .u64 u1] 54) := alloc_old _ (alloc_block w _)
  have hB : ((w.alloc (.cells #[.int .u64 u0, .int .u64 u1] 54)).alloc (.cells #[.int .i64 n0, .int .i64 n1] 55)).heap[w.heap.size + 1]? = some (.cells #[.int .i64 n0, .int .i64 n1] 55) := by
    have := alloc_block (w.alloc (.cells #[.int .u64 u0, .int .u64 u1] 54)) (.cells #[.int .i64 n0, .int .i64 n1] 55)
    simpa using this
  have hch0 : Chg (fun _ => False) w ((w.alloc (.cells #[.int .u64 u0, .int .u64 u1] 54)).alloc (.cells #[.int .i64 n0, .int .i64 n1] 55)) := (Chg.alloc _ w _).allocR _
  generalize (w.alloc (.cells #[.int .u64 u0, .int .u64 u1] 54)).alloc (.cells #[.int .i64 n0, .int .i64 n1] 55) = w0 at *
  refine (fit_any _).mono ?_
  rintro e w1 ⟨rfl, hc1⟩
  have hA1 := hc1.keep hA (fun x => x)
  have hB1 := hc1.keep hB (fun x => x)
  have hch1 := hch0.trans' hc1
  clear hA hB hch0 hc1
  have hO := OwnW.new w1
  have ca := cell_of_block (i := 0) (hO.chg.keep hA1 (fun x => x)) rfl
  go_wp2_with fail
  refine (hO.uint u0 hu0 (by simp; omega)).mono ?_
  rintro e w2 ⟨rfl, v2, hO2⟩
  clear ca hO
  have ca := cell_of_block (i := 0) (hO2.chg.keep hB1 (fun x => x)) rfl
  go_wp2_with fail
  refine (hO2.int n0 hn0.1 hn0.2 (by simp; omega)).mono ?_
  rintro e w3 ⟨rfl, v3, hO3⟩
  clear ca hO2
  go_wp2_with fail
  refine (hO3.bool _ (by simp; omega)).mono ?_
  rintro e w4 ⟨rfl, v4, hO4⟩
  clear hO3
  go_wp2_with fail
  refine (hO4.count c hcc.1 hcc.2 (by simp; omega)).mono ?_
  rintro e w5 ⟨rfl, v5, hO5⟩
  clear hO4
  have ca := cell_of_block (i := 1) (hO5.chg.keep hA1 (fun x => x)) rfl
  go_wp2_with fail
  refine (hO5.uint u1 hu1 (by simp; omega)).mono ?_
  rintro e w6 ⟨rfl, v6, hO6⟩
  clear ca hO5
  have ca := cell_of_block (i := 1) (hO6.chg.keep hB1 (fun x => x)) rfl
  go_wp2_with fail
  refine (hO6.int n1 hn1.1 hn1.2 (by simp; omega)).mono ?_
  rintro e w7 ⟨rfl, v7, hO7⟩
  clear ca hO6
  obtain ⟨bs, HBS⟩ : ∃ bs : List UInt8, Hid (bs = [] ++ Kn.enc u0 ++ Kn.enc (Kn.zig n0) ++ [if decide (0 < c) = true then 1 else 0] ++ Kn.enc c.toNat ++ Kn.enc u1 ++ Kn.enc (Kn.zig n1)) := ⟨_, Lib.hid rfl⟩
  rw [← HBS.out] at hO7
  have ca0 := cell_of_block (i := 0) (hO7.chg.keep hA1 (fun x => x)) rfl
  have cb0 := cell_of_block (i := 0) (hO7.chg.keep hB1 (fun x => x)) rfl
  have hs0 := enc_size hu0
  have hs1 := enc_size hz0
  go_upto_region 10 with fail
  go_cut [8] (fun s8 wx => ∃ k : Nat, s8 = .int .i64 (k : Int) ∧ Hid (k = c.toNat) ∧ w7 = wx)
  case first =>
    go_wp2_with fail
    all_goals (go_meet; exact ⟨c.toNat, by congr 1; omega, rfl, rfl⟩)
  case rest =>
  obtain ⟨k, rfl, HK, rfl⟩ := hcut
  go_upto_region 11 with fail
  go_cut [9] (fun s9 wx => ∃ t : ByteArray, s9 = .string t ∧ t.data.toList = Kn.enc u0 ++ Kn.enc (Kn.zig n0) ∧ t.size ≤ 20 ∧ Chg (fun _ => False) w7 wx)
  case first =>
    have hadd := fun W => str_add W ⟨(Kn.enc u0).toArray⟩ ⟨(Kn.enc (Kn.zig n0)).toArray⟩ (by omega)
    go_region_held3 (fun w' => w'.cell? ⟨w.heap.size, 0, none⟩ = some (.int .u64 u0) ∧ w'.cell? ⟨w.heap.size + 1, 0, none⟩ = some (.int .i64 n0))
      (first | go_keep | (go_split_ands; exact ⟨hch.cell (by assumption), hch.cell (by assumption)⟩))
      (first
        | (go_at_call 13; refine (refUint_any _ (by assumption) _).mono ?_; rintro e w' ⟨rfl, hch⟩)
        | (go_at_call 27; refine (zigzag_any _ hn0.1 hn0.2 _).mono ?_; rintro e w' ⟨rfl, rfl⟩))
    go_wp2_with fail
    go_meet
    exact ⟨_, rfl, by rw [ByteArray.data_append]; simp, by rw [ByteArray.size_append]; omega, (by assumption : Chg (fun _ => False) w7.drew _).ofDrew.trans' (by assumption)⟩
  case rest =>
  obtain ⟨t, rfl, ht, hts, hch8⟩ := hcut
  have hO8 := hO7.keep hch8
  have HT := Lib.hid ht
  clear ht hch8 hO7 ca0 cb0
  generalize wc = w8 at *
  go_upto_if 41 with fail
  go_cut [9] (fun s9 wx => ∃ t2 : ByteArray, s9 = .string t2 ∧ t2.data.toList = t.data.toList ++ [if decide (0 < c) = true then 1 else 0] ∧ t2.size ≤ 21 ∧ w8 = wx)
  case first =>
    have hadd1 := fun W => str_add W t ⟨#[1]⟩ (by rw [show (⟨#[1]⟩ : ByteArray).size = 1 from rfl]; omega)
    have hadd0 := fun W => str_add W t ⟨#[0]⟩ (by rw [show (⟨#[0]⟩ : ByteArray).size = 1 from rfl]; omega)
    by_cases hcp : 0 < c
    · go_wp2_with fail
      go_meet
      exact ⟨_, rfl, by rw [ByteArray.data_append]; simp [hcp], by rw [ByteArray.size_append, show (⟨#[1]⟩ : ByteArray).size = 1 from rfl]; omega, rfl⟩
    · go_wp2_with fail
      go_meet
      exact ⟨_, rfl, by rw [ByteArray.data_append]; simp [hcp], by rw [ByteArray.size_append, show (⟨#[0]⟩ : ByteArray).size = 1 from rfl]; omega, rfl⟩
  case rest =>
  obtain ⟨t2, rfl, ht2, hts2, rfl⟩ := hcut
  have HT2 := Lib.hid ht2
  clear ht2
  have hk64 : k < 18446744073709551616 := by rw [HK.out]; omega
  have hs3 := enc_size hu1
  have hs4 := enc_size hz1
  have hs5 := enc_size hk64
  have ca1 := cell_of_block (i := 1) (hO8.chg.keep hA1 (fun x => x)) rfl
  have cb1 := cell_of_block (i := 1) (hO8.chg.keep hB1 (fun x => x)) rfl
  go_upto_region 15 with fail
  go_cut [9] (fun s9 wx => s9 = .string ⟨bs.toArray⟩ ∧ Chg (fun _ => False) w8 wx)
  case first =>
    have hadd := fun W => str_add W ⟨(Kn.enc k).toArray⟩ ⟨(Kn.enc u1).toArray⟩ (by omega)
    have hadd2 := fun W => str_add W (⟨(Kn.enc k).toArray⟩ ++ ⟨(Kn.enc u1).toArray⟩) ⟨(Kn.enc (Kn.zig n1)).toArray⟩ (by rw [ByteArray.size_append]; omega)
    have hadd3 := fun W => str_add W t2 (⟨(Kn.enc k).toArray⟩ ++ ⟨(Kn.enc u1).toArray⟩ ++ ⟨(Kn.enc (Kn.zig n1)).toArray⟩) (by rw [ByteArray.size_append, ByteArray.size_append]; omega)
    have hwk : IntKind.u64.wrap (k : Int) = (k : Int) := IntWalk.u64_in _ (by omega)
    go_region_held3 (fun w' => w'.cell? ⟨w.heap.size, 1, none⟩ = some (.int .u64 u1) ∧ w'.cell? ⟨w.heap.size + 1, 1, none⟩ = some (.int .i64 n1))
      (first | go_keep | (go_split_ands; exact ⟨hch.cell (by assumption), hch.cell (by assumption)⟩))
      (first
        | (go_at_call 13; refine (refUint_any _ (by assumption) _).mono ?_; rintro e w' ⟨rfl, hch⟩)
        | (go_at_call 27; refine (zigzag_any _ hn1.1 hn1.2 _).mono ?_; rintro e w' ⟨rfl, rfl⟩))
    go_wp2_with fail
    go_meet
    refine ⟨congrArg Value.string (bytes_ext ?_), Chg.trans' (Chg.trans' (Chg.ofDrew (by assumption)) (by assumption)) (by assumption)⟩
    rw [HBS.out, ByteArray.data_append, ByteArray.data_append, ByteArray.data_append, Array.toList_append, HT2.out, HT.out, HK.out]
    simp
  case rest =>
  obtain ⟨rfl, hch9⟩ := hcut
  have hO9 := hO8.keep hch9
  have hbl : bs.length ≤ 140737488355328 := by
    have h := congrArg List.length HBS.out
    simp at h
    omega
  have hbz : (⟨bs.toArray⟩ : ByteArray).size ≤ 140737488355328 := by
    show bs.toArray.size ≤ _
    rw [List.size_toArray]; exact hbl
  clear hch9 hO8 ca1 cb1 HT HT2 hs0 hs1 hs3 hs4 hs5 hbl hts hts2
  generalize wc = w9 at *
  have hconv := hO9.conv0
  have hbox := cell_of_block (i := 0) hO9.wr.box rfl
  have ca0 := cell_of_block (i := 0) (hO9.chg.keep hA1 (fun x => x)) rfl
  have cb0 := cell_of_block (i := 0) (hO9.chg.keep hB1 (fun x => x)) rfl
  have ca1 := cell_of_block (i := 1) (hO9.chg.keep hA1 (fun x => x)) rfl
  have cb1 := cell_of_block (i := 1) (hO9.chg.keep hB1 (fun x => x)) rfl
  have hAlt := lt_of_block (hO9.chg.keep hA1 (fun x => x))
  have hBlt := lt_of_block (hO9.chg.keep hB1 (fun x => x))
  have hR : OwnRest w9 (w9.alloc (.cells #[.string ⟨bs.toArray⟩, .int .i64 0, .int .i64 0] 32)) w9.heap.size ⟨bs.toArray⟩ (Kn.enc u0 ++ (Kn.enc (Kn.zig n0) ++ ((if decide (0 < c) = true then 1 else 0) :: (Kn.enc k ++ (Kn.enc u1 ++ (Kn.enc (Kn.zig n1) ++ [])))))) := by
    have h := OwnRest.new w9 ⟨bs.toArray⟩ 32 rfl
    have e : (⟨bs.toArray⟩ : ByteArray).data.toList = Kn.enc u0 ++ (Kn.enc (Kn.zig n0) ++ ((if decide (0 < c) = true then 1 else 0) :: (Kn.enc k ++ (Kn.enc u1 ++ (Kn.enc (Kn.zig n1) ++ []))))) := by
      show bs.toArray.toList = _
      rw [HBS.out, HK.out]; simp
    rw [e] at h
    exact h
  have hchA := hch1.trans' hO9.chg
  clear hO9 HBS hA1 hB1 hch1
  go_upto_region 19 with fail
  have hcA := Chg.alloc (fun _ => False) w9 (.cells #[.string ⟨bs.toArray⟩, .int .i64 0, .int .i64 0] 32)
  have da0 := hcA.cell ca0
  have db0 := hcA.cell cb0
  have da1 := hcA.cell ca1
  have db1 := hcA.cell cb1
  clear ca0 ca1 cb0 cb1 hconv hbox hcA
  generalize w9.alloc (.cells #[.string ⟨bs.toArray⟩, .int .i64 0, .int .i64 0] 32) = w10 at *
  have hR := hR.drew
  have hne0 : w.heap.size ≠ w9.heap.size := by omega
  have hne1 : w.heap.size + 1 ≠ w9.heap.size := by omega
  have hk1 : -9223372036854775808 ≤ (k : Int) := by omega
  have hk2 : (k : Int) < 9223372036854775808 := by rw [HK.out]; omega
  clear HK hAlt hBlt
  have HN0 := Lib.hid hne0
  have HN1 := Lib.hid hne1
  clear hne0 hne1
  go_region_held3 (fun w' => w'.cell? ⟨w.heap.size, 0, none⟩ = some (.int .u64 u0) ∧ w'.cell? ⟨w.heap.size + 1, 0, none⟩ = some (.int .i64 n0) ∧ w'.cell? ⟨w.heap.size, 1, none⟩ = some (.int .u64 u1) ∧ w'.cell? ⟨w.heap.size + 1, 1, none⟩ = some (.int .i64 n1))
    (first | go_keep | (go_split_ands; exact ⟨hch.cellNe (by assumption) HN0.out, hch.cellNe (by assumption) HN1.out, hch.cellNe (by assumption) HN0.out, hch.cellNe (by assumption) HN1.out⟩))
    (first
      | (go_at_call 28; refine (OwnRest.uint hR (by assumption) hbz).mono ?_; rintro e w' ⟨rfl, hR, hch⟩)
      | (go_at_call 17; refine (OwnRest.int hR (by omega) (by omega) hbz).mono ?_; rintro e w' ⟨rfl, hR, hch⟩)
      | (go_at_call 29; refine (OwnRest.bool hR hbz).mono ?_; rintro e w' ⟨rfl, hR, hch⟩)
      | (go_at_call 30; refine (OwnRest.count hR hk64 (Int.le_refl _) hk1 hk2 hbz).mono ?_; rintro e w' ⟨rfl, hR, hch⟩)
      | (go_at_call 15; refine (OwnRest.done hR hbz).mono ?_; rintro e w' ⟨rfl, hchD⟩; have hch := hchD.mono (S' := (· = w9.heap.size)) (fun _ _ x => x.elim)))
  go_wp2_with fail
  go_ret
  exact ⟨rfl, (hchA.trans' (hR.chg.trans' hchD)).below (Nat.le_refl _) (fun _ h => h.elim)⟩

set_option maxRecDepth 100000 in
theorem codecNumbers_lifted (os : Os) (started : os.Started) (H : Type) (enc : TypeId × Value → H) :
    ReturnsInHanded {} Try.checked os 9 .any (Rows.codecNumbersSpec.pre6 enc Try.prog Try.f9 [] false) (Rows.codecNumbersSpec.post enc Try.prog Try.f9 false true false false) := by
  refine law_lift (C := Try.checked) (tb := 4) started Try.own Try.laidOut (by kernel_rfl) Try.func9 (by kernel_rfl) rfl Try.underlying4 rfl ?_
    (ChangeSpec.witness6 (enc := enc) (C := Try.checked) false ⟨#[], #[.agg #[.int .u64 0, .int .u64 0], .agg #[.int .i64 0, .int .i64 0], .int .i64 0], []⟩ 8 (by kernel_rfl) (by kernel_rfl) (by kernel_rfl) (by kernel_rfl)) ?_
  · intro ds h
    match ds, h with
    | [_, _, _], _ => rfl
  · intro W base vs ds ps hval hA hsz
    have hp : Try.f9.params.toList = [54, 55, 3] := by rw [Try.params9]
    rw [hp] at hval hA hsz
    obtain ⟨v0, vs0, d0, ds0, p0, q0, rfl, rfl, rfl, h0, r0⟩ := trodAll_cons hA
    obtain ⟨v1, vs1, d1, ds1, p1, q1, rfl, rfl, rfl, h1, r1⟩ := trodAll_cons r0
    obtain ⟨v2, vs2, d2, ds2, p2, q2, rfl, rfl, rfl, h2, r2⟩ := trodAll_cons r1
    obtain ⟨rfl, rfl, rfl⟩ := trodAll_nil r2
    obtain ⟨a2, rfl, rfl, rfl, w2⟩ := open_int Try.underlying3 (hval 2 3 v2 rfl rfl) h2
    obtain ⟨x0, y0, rfl, hx0, hy0⟩ := open_array2 (k := .u64) Try.underlying54 Try.underlying29 (by kernel_rfl) (by kernel_rfl) (hval 0 54 v0 rfl rfl) h0
    obtain ⟨x1, y1, rfl, hx1, hy1⟩ := open_array2 (k := .i64) Try.underlying55 Try.underlying2 (by kernel_rfl) (by kernel_rfl) (hval 1 55 v1 rfl rfl) h1
    have hx0 : 0 ≤ x0 ∧ x0 ≤ 18446744073709551615 := hx0
    have hy0 : 0 ≤ y0 ∧ y0 ≤ 18446744073709551615 := hy0
    have hx1 : -9223372036854775808 ≤ x1 ∧ x1 ≤ 9223372036854775807 := hx1
    have hy1 : -9223372036854775808 ≤ y1 ∧ y1 ≤ 9223372036854775807 := hy1
    have hx2 : -9223372036854775808 ≤ a2 ∧ a2 ≤ 9223372036854775807 := int_of_wf w2
    obtain ⟨m0, rfl⟩ := Int.eq_ofNat_of_zero_le hx0.1
    obtain ⟨m1, rfl⟩ := Int.eq_ofNat_of_zero_le hy0.1
    exact codecNumbers_walk m0 m1 x1 y1 a2 W (by omega) (by omega) (by omega) (by omega) (by omega)

theorem codecNumbers_holds : Rows.CodecNumbersSaid :=
  OpenClaim.holds_of_wide 9 Try.f9 rfl rfl rfl rfl rfl rfl rfl ⟨rfl, rfl, rfl, rfl, rfl⟩ rfl rfl rfl rfl rfl (by kernel_rfl) Try.func9 (by kernel_rfl)
    (of_decide_eq_true (by kernel_rfl)) (by unfold Func.isWrapper; first | (rw [if_pos (by decide +kernel)]; kernel_rfl) | (rw [if_neg (by decide +kernel)]; exact ⟨rfl, rfl⟩))
    (fun os started H enc _ => codecNumbers_lifted os started H enc)
#print axioms codecNumbers_holds
end Go.Proofs.Ytehdimblkaefhaa
