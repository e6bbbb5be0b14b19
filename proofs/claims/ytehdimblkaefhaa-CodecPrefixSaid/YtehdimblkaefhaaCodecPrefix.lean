/-
  CodecPrefix: a beginning of what was written is not enough to read all of it, and one byte more is not read, for every input.
-/
import Derived.Test.YtehdimblkaefhaaOpen
import Derived.Test.YtehdimblkaefhaaPlaind
namespace Go.Proofs.Ytehdimblkaefhaa
open Go.ChangeShapes Go.WideShapes Go.ChangeAt Go.RowKit
open Go.ChangeMaps (open_string shut_string)
set_option linter.unusedVariables false

theorem argCell {w w' : World} {a : Option Addr} {n cap : Nat} {xs : List Value} (h : ArgRow w (.slice a n cap) xs) (hc : Chg (fun _ => False) w w') {k : Nat} {u : Value} (hu : xs[k]? = some u) :
    ∃ g off, a = some ⟨g, off, none⟩ ∧ w'.cell? ⟨g, off + k, none⟩ = some u := by
  obtain ⟨a', cap', hv, h1, h2, h3⟩ := h
  cases hv
  have hne : xs ≠ [] := by rintro rfl; simp at hu
  obtain ⟨g, off, rfl, hg, hcell⟩ := h3 hne
  exact ⟨g, off, rfl, hc.cell (hcell k u hu)⟩

set_option maxHeartbeats 3200000 in
set_option maxRecDepth 100000 in
theorem codecPrefix_walk (a : Option Addr) (cap : Nat) (zs : List Int) (s : ByteArray) (q0 : Int) (w : World) (hrow : ArgRow w (.slice a zs.length cap) (zs.map (Value.int .i64)))
    (hz : ∀ z ∈ zs, -9223372036854775808 ≤ z ∧ z < 9223372036854775808) (hzl : zs.length ≤ 9223372036854775807) (hs : s.size ≤ 140737488351232) (hq0 : -9223372036854775808 ≤ q0 ∧ q0 ≤ 9223372036854775807) :
    Calls Try.prog 4 #[.slice a zs.length cap, .string s, .int .i64 q0] w fun e w' => e = .returned (.bool true) ∧ Below w.heap.size w w' := by
  go_enter Try.func4, Try.ntmps4
  go_wp2_with fail
  refine (fit_any _).mono ?_
  rintro e w1 ⟨rfl, hc1⟩
  by_cases h20 : 20 < zs.length
  · have hb : decide ((20 : Int) < (zs.length : Int)) = true := by simp; omega
    go_wp2_with fail
    go_ret
    exact ⟨rfl, hc1.below (Nat.le_refl _) (fun _ h => h.elim)⟩
  by_cases h200 : 200 < s.size
  · have hb : decide ((20 : Int) < (zs.length : Int)) = false := by simp; omega
    have hb2 : decide ((200 : Int) < (s.size : Int)) = true := by simp; omega
    go_wp2_with fail
    go_ret
    exact ⟨rfl, hc1.below (Nat.le_refl _) (fun _ h => h.elim)⟩
  have hb : decide ((20 : Int) < (zs.length : Int)) = false := by simp; omega
  have hb2 : decide ((200 : Int) < (s.size : Int)) = false := by simp; omega
  have hel := encs_length zs hz
  go_wp2_with fail
  go_loopw [9, 27] (fun _ i wr => ∃ (k : Nat) (v : Value), k ≤ zs.length ∧ i = .int .i64 k ∧ OwnW w1 wr w1.heap.size v (encs (zs.take k))) (fun _ i _ => zs.length - (intOf i).toNat)
  case atStart => exact ⟨0, _, Nat.zero_le _, rfl, OwnW.new w1⟩
  case round =>
    obtain ⟨k, v, hk, rfl, hO⟩ := hrel
    by_cases hlt : k < zs.length
    · have hzk := hz zs[k] (List.getElem_mem _)
      obtain ⟨g, off, rfl, hcell⟩ := argCell hrow (hc1.trans' hO.chg) (k := k) (u := .int .i64 zs[k]) (by simp [hlt])
      have HE := Lib.hid (encs_take zs k hlt)
      have hl1 := Kn.enc_len10 (Kn.zig_lt hzk.1 hzk.2)
      have hl2 := encs_length (zs.take k) (fun z h => hz z (List.mem_of_mem_take h))
      have hl3 : (zs.take k).length ≤ 20 := by simp; omega
      generalize zs[k] = z at *
      go_wp2_with fail
      refine (hO.int z hzk.1 hzk.2 (by omega)).mono ?_
      rintro e w2 ⟨rfl, v2, hO2⟩
      go_wp2_with fail
      go_roundw
      case rel => exact ⟨k + 1, v2, by omega, by go_num, by rw [HE.out]; exact hO2⟩
      case measure => simp [intOf]; omega
    · obtain rfl : k = zs.length := by omega
      rw [List.take_length] at hO
      go_wp2_with fail
      have hls := Kn.enc_len10 (n := s.size) (by omega)
      refine (hO.string s (by omega)).mono ?_
      rintro e w2 ⟨rfl, v2, hO2⟩
      clear hO
      rw [List.append_assoc] at hO2
      obtain ⟨A, HA⟩ : ∃ A : ByteArray, Hid (A.data.toList = encs zs ++ (Kn.enc s.size ++ s.data.toList)) := ⟨⟨(encs zs ++ (Kn.enc s.size ++ s.data.toList)).toArray⟩, Lib.hid (by simp)⟩
      have hA1 : A.size = (encs zs).length + ((Kn.enc s.size).length + s.size) := by
        have h1 : A.data.toList.length = A.size := by simp
        rw [← h1, HA.out]; simp
      have hAlo : 0 < A.size := by have := Kn.enc_pos s.size; omega
      have hAhi : A.size ≤ 1000 := by omega
      clear hA1
      have hconv : (convert 23 9 v2).run Try.prog w2 = .ok (.string A) w2 := by
        rw [hO2.conv0, ← HA.out]
      have hbox := cell_of_block (i := 0) hO2.wr.box rfl
      have hch2 := hc1.trans' hO2.chg
      clear hc1 hO2
      go_upto_region 13 with fail
      go_cut [2] (fun s2 wx => ∃ q : Nat, s2 = .int .i64 q ∧ q < A.size ∧ w2 = wx)
      case first =>
        go_wp2_with fail
        all_goals (go_meet; first | exact ⟨q0.toNat, by congr 1; omega, by omega, rfl⟩ | exact ⟨A.size - 1, by congr 1; omega, by omega, rfl⟩ | exact ⟨0, rfl, by omega, rfl⟩)
      case rest =>
      obtain ⟨q, rfl, hq, rfl⟩ := hcut
      have hadd := fun W => run_string_add_sum (P := Try.prog) W A ⟨#[0]⟩ (by rw [show (⟨#[0]⟩ : ByteArray).size = 1 from rfl]; omega)
      have h0 : (0 : Int) ≤ (q : Int) := Int.natCast_nonneg _
      have h1 : (q : Int) ≤ (A.size : Int) := by omega
      clear hconv hbox
      go_wp2_with fail
      have hT := alloc_block w2 (.cells #[.string (A.extract 0 q), .string (A ++ ⟨#[0]⟩)] 9)
      have hch3 := hch2.allocR (.cells #[.string (A.extract 0 q), .string (A ++ ⟨#[0]⟩)] 9)
      generalize w2.alloc (.cells #[.string (A.extract 0 q), .string (A ++ ⟨#[0]⟩)] 9) = w3 at *
      clear hadd
      have hl4 : (encs zs ++ (Kn.enc s.size ++ s.data.toList)).length = A.size := by rw [← HA.out]; simp
      have HT0 : Hid ((A.extract 0 q).data.toList = (encs zs ++ (Kn.enc s.size ++ s.data.toList)).take q) := by show _ = _; rw [Lib.extract_data, HA.out]; simp
      have HT1 : Hid ((A ++ (⟨#[0]⟩ : ByteArray)).data.toList = encs zs ++ (Kn.enc s.size ++ (s.data.toList ++ [0]))) := by show _ = _; rw [ByteArray.data_append, Array.toList_append, HA.out]; simp
      have hq1 : q < (encs zs ++ (Kn.enc s.size ++ s.data.toList)).length := by omega
      have hs0 : (A.extract 0 q).size < A.size := by rw [ByteArray.size_extract]; omega
      have hs1 : A.size < (A ++ (⟨#[0]⟩ : ByteArray)).size := by rw [ByteArray.size_append, show (⟨#[0]⟩ : ByteArray).size = 1 from rfl]; omega
      have hs2 : (A ++ (⟨#[0]⟩ : ByteArray)).size ≤ 1001 := by rw [ByteArray.size_append, show (⟨#[0]⟩ : ByteArray).size = 1 from rfl]; omega
      clear hl4 HA
      generalize A.extract 0 q = T0 at *
      generalize A ++ (⟨#[0]⟩ : ByteArray) = T1 at *
      go_loopw [12, 13, 14, 52, 60] (fun _ _ _ i _ wr => ∃ k : Nat, k ≤ 2 ∧ i = .int .i64 k ∧ Chg (fun _ => False) w3 wr) (fun _ _ _ i _ _ => 2 - (intOf i).toNat)
      case atStart => exact ⟨0, by omega, rfl, Chg.refl _ _⟩
      case round =>
        obtain ⟨k, hk2, rfl, hch4⟩ := hrel
        have hT4 := hch4.keep hT (fun x => x)
        obtain ⟨wo, rfl⟩ : ∃ wo : World, wo = wr := ⟨_, rfl⟩
        match k, hk2 with
        | 0, _ =>
          rw [show ((0 : Nat) : Int) = 0 from rfl]
          have hcell := cell_of_block (i := 0) hT4 rfl
          have hgt : decide ((A.size : Int) < (T0.size : Int)) = false := by simp; omega
          go_wp2_with fail
          clear hcell
          go_loopw [60] (fun i wr => ∃ j : Nat, j ≤ zs.length ∧ i = .int .i64 j ∧ OwnCut wo wr wo.heap.size T0 zs q j) (fun i _ => zs.length - (intOf i).toNat)
          case atStart => exact ⟨0, Nat.zero_le _, rfl, 0, 0, OwnR.new wo T0 0 0, .inr ⟨rfl, by simp [encs], by simp [encs]⟩⟩
          case round =>
            obtain ⟨j, hj, rfl, hC⟩ := hrel
            by_cases hlt2 : j < zs.length
            · go_wp2_with fail
              refine (OwnCut.int hC hlt2 hz HT0.out hq1 (by omega)).mono ?_
              rintro e w5 ⟨⟨m, rfl⟩, hC5⟩
              go_wp2_with fail
              go_roundw
              case rel => exact ⟨j + 1, by omega, by go_num, hC5⟩
              case measure => simp [intOf]; omega
            · obtain rfl : j = zs.length := by omega
              go_wp2_with fail
              refine (OwnCut.string hC HT0.out hq1 (by omega) (by omega)).mono ?_
              rintro e w5 ⟨⟨m, rfl⟩, p5, hR5⟩
              go_wp2_with fail
              refine (OwnR.done3 hR5 (by omega)).mono ?_
              rintro e w6 ⟨rfl, hch6⟩
              have hch7 := (hch4.trans' hR5.chg).trans' hch6
              clear hR5 hC
              go_wp2_with fail
              go_roundw
              case rel => exact ⟨1, by omega, rfl, hch7⟩
              case measure => simp [intOf]
        | 1, _ =>
          rw [show ((1 : Nat) : Int) = 1 from rfl]
          have hcell := cell_of_block (i := 1) hT4 rfl
          have hgt : decide ((A.size : Int) < (T1.size : Int)) = true := by simp; omega
          go_wp2_with fail
          clear hcell
          go_loopw [60] (fun i wr => ∃ j : Nat, j ≤ zs.length ∧ i = .int .i64 j ∧ OwnRest wo wr wo.heap.size T1 (encs (zs.drop j) ++ (Kn.enc s.size ++ (s.data.toList ++ [0])))) (fun i _ => zs.length - (intOf i).toNat)
          case atStart => exact ⟨0, Nat.zero_le _, rfl, by rw [List.drop_zero, ← HT1.out]; exact OwnRest.new wo T1 _ rfl⟩
          case round =>
            obtain ⟨j, hj, rfl, hC⟩ := hrel
            by_cases hlt2 : j < zs.length
            · have hzj := hz zs[j] (List.getElem_mem _)
              rw [encs_split zs j hlt2, List.append_assoc] at hC
              go_wp2_with fail
              refine (OwnRest.int hC hzj.1 hzj.2 (by omega)).mono ?_
              rintro e w5 ⟨rfl, hC5, _⟩
              go_wp2_with fail
              go_roundw
              case rel => exact ⟨j + 1, by omega, by go_num, hC5⟩
              case measure => simp [intOf]; omega
            · obtain rfl : j = zs.length := by omega
              rw [List.drop_length] at hC
              go_wp2_with fail
              refine (OwnRest.string (t := s) (r := [0]) (by simpa [encs] using hC) (by omega) (by omega)).mono ?_
              rintro e w5 ⟨rfl, hR5, _⟩
              go_wp2_with fail
              refine (OwnRest.done3 hR5 (by omega)).mono ?_
              rintro e w6 ⟨rfl, hch6⟩
              have hch7 := (hch4.trans' hR5.chg).trans' hch6
              clear hR5 hC
              go_wp2_with fail
              go_roundw
              case rel => exact ⟨2, by omega, rfl, hch7⟩
              case measure => simp [intOf]
        | 2, _ =>
          go_wp2_with fail
          go_ret
          exact ⟨rfl, (hch3.trans' hch4).below (Nat.le_refl _) (fun _ h => h.elim)⟩

set_option maxRecDepth 100000 in
theorem codecPrefix_lifted (os : Os) (started : os.Started) (H : Type) (enc : TypeId × Value → H) :
    ReturnsInHanded {} Try.checked os 4 .any (Rows.codecPrefixSpec.pre6 enc Try.prog Try.f4 [] false) (Rows.codecPrefixSpec.post enc Try.prog Try.f4 false true false false) := by
  refine law_lift (C := Try.checked) (tb := 4) started Try.own Try.laidOut (by kernel_rfl) Try.func4 (by kernel_rfl) rfl Try.underlying4 rfl ?_
    (ChangeSpec.witness6 (enc := enc) (C := Try.checked) false ⟨#[], #[.slice none 0 0, .string ByteArray.empty, .int .i64 0], []⟩ 8 (by kernel_rfl) (by kernel_rfl) (by kernel_rfl) (by kernel_rfl)) ?_
  · intro ds h
    match ds, h with
    | [_, _, _], _ => rfl
  · intro W base vs ds ps hval hA hsz
    have hp : Try.f4.params.toList = [36, 9, 3] := by rw [Try.params4]
    rw [hp] at hval hA hsz
    obtain ⟨v0, vs0, d0, ds0, p0, q0, rfl, rfl, rfl, h0, r0⟩ := trodAll_cons hA
    obtain ⟨v1, vs1, d1, ds1, p1, q1, rfl, rfl, rfl, h1, r1⟩ := trodAll_cons r0
    obtain ⟨v2, vs2, d2, ds2, p2, q2, rfl, rfl, rfl, h2, r2⟩ := trodAll_cons r1
    obtain ⟨rfl, rfl, rfl⟩ := trodAll_nil r2
    obtain ⟨a1, rfl, rfl, rfl, w1⟩ := open_string Try.underlying9 (hval 1 9 v1 rfl rfl) h1
    have l1 : a1.size ≤ 140737488351232 := by have := sized_string hsz (j := 1) (t := 9) rfl rfl; simpa [reachBytes] using this
    obtain ⟨a2, rfl, rfl, rfl, w2⟩ := open_int Try.underlying3 (hval 2 3 v2 rfl rfl) h2
    obtain ⟨zs, hrow, hz, _⟩ := open_intRow (k := .i64) Try.underlying36 Try.underlying2 (by kernel_rfl) (hval 0 36 v0 rfl rfl) h0
    have hrow' := hrow
    obtain ⟨a, cap, rfl, hl, hm, _⟩ := hrow
    simp only [List.length_map] at hrow' hl ⊢
    exact codecPrefix_walk a cap zs a1 a2 W hrow' (fun z h => by have : -9223372036854775808 ≤ z ∧ z ≤ 9223372036854775807 := hz z h; omega) (by unfold maxLen at hm; omega) l1 (int_of_wf w2)

theorem codecPrefix_holds : Rows.CodecPrefixSaid :=
  OpenClaim.holds_of_wide 4 Try.f4 rfl rfl rfl rfl rfl rfl rfl ⟨rfl, rfl, rfl, rfl, rfl⟩ rfl rfl rfl rfl rfl (by kernel_rfl) Try.func4 (by kernel_rfl)
    (of_decide_eq_true (by kernel_rfl)) (by unfold Func.isWrapper; first | (rw [if_pos (by decide +kernel)]; kernel_rfl) | (rw [if_neg (by decide +kernel)]; exact ⟨rfl, rfl⟩))
    (fun os started H enc _ => codecPrefix_lifted os started H enc)
#print axioms codecPrefix_holds
end Go.Proofs.Ytehdimblkaefhaa
