/-
  CodecSeal: for every string a sealed string is opened, is not opened if one byte has been changed, and a string is opened only to what it was sealed from.
-/
import Derived.Test.YtehdimblkaefhaaLaw
import Derived.Test.YtehdimblkaefhaaSeal
namespace Go.Proofs.Ytehdimblkaefhaa
open Go.ChangeShapes Go.WideShapes Go.ChangeAt Go.RowKit
open Go.ChangeMaps (open_string shut_string)
set_option linter.unusedVariables false

theorem sealB_list (s : ByteArray) : (s ++ (⟨(Kn.tailOf (Kn.crc s.data.toList)).toArray⟩ : ByteArray)).data.toList = Kn.sealL s.data.toList := by
  simp [Kn.sealL, ByteArray.data_append]
theorem toArray_set_size (l : List UInt8) : (⟨l.toArray⟩ : ByteArray).size = l.length := by
  show l.toArray.size = l.length
  simp

set_option maxHeartbeats 1600000 in
set_option maxRecDepth 100000 in
theorem codecSeal_walk (s : ByteArray) (p : Int) (c : Int) (w : World) (hs : s.size ≤ 140737488351232) (hp : -9223372036854775808 ≤ p ∧ p ≤ 9223372036854775807) (hc : 0 ≤ c ∧ c ≤ 255) :
    Calls Try.prog 7 #[.string s, .int .i64 p, .int .u8 c] w fun e w' => e = .returned (.bool true) ∧ Below w.heap.size w w' := by
  obtain ⟨cb, rfl⟩ : ∃ cb : UInt8, c = (cb.toNat : Int) := ⟨UInt8.ofNat c.toNat, by simp; omega⟩
  go_enter Try.func7, Try.ntmps7
  go_wp2_with fail
  refine (fit_any _).mono ?_
  rintro e w1 ⟨rfl, hc1⟩
  go_wp2_with fail
  refine (seal_any s w1 (by omega)).mono ?_
  rintro e w2 ⟨rfl, hc2⟩
  have hT := sealB_list s
  have hTs : (s ++ (⟨(Kn.tailOf (Kn.crc s.data.toList)).toArray⟩ : ByteArray)).size = s.size + 4 := by simp [ByteArray.size_append, Kn.tailOf]; rfl
  generalize s ++ (⟨(Kn.tailOf (Kn.crc s.data.toList)).toArray⟩ : ByteArray) = T at *
  have hop : openB T = (s, 0) := by
    have h1 : T.extract 0 (T.size - 4) = s := by
      apply ByteArray.ext
      apply Array.toList_inj.1
      rw [Lib.extract_data, hT, hTs]
      simp [Kn.sealL]
    rw [openB, if_neg (by omega), hT, Kn.openL_seal, if_pos rfl, h1]
  have HT := Lib.hid hT
  have HTs := Lib.hid hTs
  clear hT hTs
  go_wp2_with fail
  refine (open_any T w2 (by rw [HTs.out]; omega)).mono ?_
  rintro e w3 ⟨rfl, hc3⟩
  rw [hop]
  clear hop
  have hTz : (T.size : Int) = (s.size : Int) + 4 := by rw [HTs.out]; omega
  have hne : ((T.size : Int) != (s.size : Int) + 4) = false := by rw [hTz]; simp
  have hlo : 4 ≤ T.size := by rw [HTs.out]; omega
  have hhi : T.size ≤ 140737488351236 := by rw [HTs.out]; omega
  clear hTz
  obtain ⟨C, cur, f, w4, hrun, hblk, hff, hsz, hcur, hc4⟩ := run_bytes_new w3 T
  go_upto_region 8 with fail
  go_cut [11] (fun s11 wx => ∃ i : Nat, s11 = .int .i64 i ∧ i < T.size ∧ w4 = wx)
  case first =>
    go_wp2_with fail
    all_goals (go_meet; first | exact ⟨p.toNat, by congr 1; omega, by omega, rfl⟩ | exact ⟨T.size - 1, by congr 1; omega, by omega, rfl⟩ | exact ⟨0, rfl, by omega, rfl⟩)
  case rest =>
    obtain ⟨i, rfl, hi, rfl⟩ := hcut
    have hcell := cell_of_block (i := i) hblk (hcur i hi)
    have hfz := frozen_below (i := i) hblk hff (by omega)
    have h0 : (0 : Int) ≤ (i : Int) := Int.natCast_nonneg _
    have h1 : (i : Int) < (T.size : Int) := by omega
    have HLs := Lib.hid (show (T.data.toList.set i cb).length = T.size from by simp)
    have hcell' : ∀ j (hj : j < (T.data.toList.set i cb).length), (w4.setCell ⟨w3.heap.size, i, none⟩ (byteV cb)).cell? ⟨w3.heap.size, 0 + j, none⟩ = some (byteV (T.data.toList.set i cb)[j]) := by
      intro j hj
      have hj' : j < T.size := by rw [HLs.out] at hj; exact hj
      rw [Nat.zero_add]
      refine cell_of_block (setCell_block (byteV cb) hblk) ?_
      rw [Array.getElem?_setIfInBounds, List.getElem_set]
      by_cases hij : i = j
      · subst hij; rw [if_pos rfl, if_pos rfl, if_pos (by omega)]
      · rw [if_neg hij, if_neg hij, hcur j hj']; rfl
    have hconv := run_convert_cells (cap := C) (T.data.toList.set i cb) HLs.out hcell'
    have hch : Chg (fun _ => False) w (w4.setCell ⟨w3.heap.size, i, none⟩ (byteV cb)) := by
      refine (((hc1.trans' hc2).trans' hc3).trans' hc4).setCellR _ _ (fun h => ?_)
      have := ((hc1.trans' hc2).trans' hc3).size
      simp at h
      omega
    clear hcell' hblk hcur hc1 hc2 hc3 hc4 hrun
    have hUs : (⟨(T.data.toList.set i cb).toArray⟩ : ByteArray).size = T.size := by rw [toArray_set_size, HLs.out]
    have HU : Hid (openB ⟨(T.data.toList.set i cb).toArray⟩ = (ByteArray.empty, 12) ∨ T[i] = cb) := by
      show _ ∨ _
      by_cases ho : Kn.openL (T.data.toList.set i cb) = true
      · right
        have := HT.out
        have h2 := Kn.openL_set s.data.toList i (by rw [← this]; simpa using hi) cb (by rw [← this]; exact ho)
        rw [← h2]
        show T.data[i] = _
        simp only [← this]
        simp
      · left
        rw [openB, if_neg (by rw [hUs]; omega), if_neg ho]
    have hUl : (⟨(T.data.toList.set i cb).toArray⟩ : ByteArray).size ≤ 140737488355328 := by rw [hUs]; omega
    clear hUs
    generalize (⟨(T.data.toList.set i cb).toArray⟩ : ByteArray) = U at *
    have hbv : byteV cb = .int .u8 (cb.toNat : Int) := rfl
    unfold byteV at hconv hch hcell
    clear hbv
    go_wp2_with fail
    generalize w4.setCell ⟨w3.heap.size, i, none⟩ (Value.int .u8 (cb.toNat : Int)) = w5 at *
    clear hconv hcell hfz
    refine (open_any U w5 hUl).mono ?_
    rintro e w6 ⟨rfl, hc6⟩
    have hch6 := hch.trans' hc6
    clear hch hc6
    obtain ⟨ub, ue, hub⟩ : ∃ ub ue, openB U = (ub, ue) := ⟨_, _, rfl⟩
    rw [hub]
    have HU2 : Hid ((ub = ByteArray.empty ∧ ue = 12) ∨ T[i] = cb) := by
      show _ ∨ _
      rcases HU.out with h | h
      · rw [hub] at h; simp only [Prod.mk.injEq] at h; exact .inl h
      · exact .inr h
    clear hub HU
    go_upto_region 12 with fail
    go_cut [73] (fun s73 wx => s73 = .bool false ∧ w6 = wx)
    case first =>
      by_cases hcb : cb = T[i]
      · have hx : ((cb.toNat : Int) != (T[i].toNat : Int)) = false := by rw [hcb]; simp
        go_wp2_with fail
        go_meet
        exact ⟨rfl, rfl⟩
      · have hx : ((cb.toNat : Int) != (T[i].toNat : Int)) = true := by
          rw [bne_iff_ne]
          intro h
          exact hcb (UInt8.toNat_inj.1 (by omega))
        obtain ⟨rfl, rfl⟩ : ub = ByteArray.empty ∧ ue = 12 := by
          rcases HU2.out with h | h
          · exact h
          · exact absurd h.symm hcb
        clear HU2
        go_wp2_with fail
        go_meet
        exact ⟨rfl, rfl⟩
    case rest =>
      obtain ⟨rfl, rfl⟩ := hcut
      clear HU2
      go_wp2_with fail
      refine (open_any s w6 (by omega)).mono ?_
      rintro e w7 ⟨rfl, hc7⟩
      have hch7 := hch6.trans' hc7
      clear hch6 hc7
      have hsl : s.data.toList.length = s.size := by simp
      by_cases h4 : s.size < 4
      · rw [show openB s = (ByteArray.empty, 3) from by rw [openB, if_pos h4]]
        clear hsl
        go_wp2_with fail
        all_goals first | omega | skip
        go_ret
        exact ⟨rfl, hch7.below (Nat.le_refl _) (fun _ h => h.elim)⟩
      · have hex : (s.extract 0 (s.size - 4)).data.toList = s.data.toList.take (s.data.toList.length - 4) := by rw [Lib.extract_data]; simp
        have hxl : (s.extract 0 (s.size - 4)).size ≤ 140737488355328 := by rw [ByteArray.size_extract]; omega
        by_cases ho : Kn.openL s.data.toList = true
        · rw [show openB s = (s.extract 0 (s.size - 4), 0) from by rw [openB, if_neg h4, if_pos ho]]
          have HV : Hid (s.extract 0 (s.size - 4) ++ (⟨(Kn.tailOf (Kn.crc (s.extract 0 (s.size - 4)).data.toList)).toArray⟩ : ByteArray) = s) := by
            apply ByteArray.ext
            apply Array.toList_inj.1
            rw [sealB_list, hex, Kn.sealL_of_open ho]
          clear hsl hex ho
          go_wp2_with fail
          all_goals first | omega | skip
          refine (seal_any _ w7 hxl).mono ?_
          rintro e w8 ⟨rfl, hc8⟩
          rw [HV.out]
          go_wp2_with fail
          go_ret
          exact ⟨by simp, (hch7.trans' hc8).below (Nat.le_refl _) (fun _ h => h.elim)⟩
        · rw [show openB s = (ByteArray.empty, 12) from by rw [openB, if_neg h4, if_neg ho]]
          have HV : Hid (((s.extract 0 (s.size - 4) ++ (⟨(Kn.tailOf (Kn.crc (s.extract 0 (s.size - 4)).data.toList)).toArray⟩ : ByteArray)).toList == s.toList) = false) := by
            show _ = false
            rw [beq_eq_false_iff_ne]
            intro h
            rw [ByteArray.toList_eq, ByteArray.toList_eq, sealB_list, hex] at h
            exact ho (Kn.open_of_sealL (by omega) h)
          clear hsl hex ho
          have h0' : (0 : Int) ≤ (s.size : Int) - 4 := by omega
          go_wp2_with fail
          all_goals first | omega | skip
          refine (seal_any _ w7 hxl).mono ?_
          rintro e w8 ⟨rfl, hc8⟩
          have hV := HV.out
          generalize s.extract 0 (s.size - 4) ++ (⟨(Kn.tailOf (Kn.crc (s.extract 0 (s.size - 4)).data.toList)).toArray⟩ : ByteArray) = V at *
          go_wp2_with fail
          go_ret
          exact ⟨by simp, (hch7.trans' hc8).below (Nat.le_refl _) (fun _ h => h.elim)⟩

theorem int_of_wf {k : IntKind} {n : Int} (h : (Lit.int k n).wf = true) : k.min ≤ n ∧ n ≤ k.max := by simpa [Lit.wf] using h

set_option maxRecDepth 100000 in
theorem codecSeal_lifted (os : Os) (started : os.Started) (H : Type) (enc : TypeId × Value → H) :
    ReturnsInHanded {} Try.checked os 7 .any (Rows.codecSealSpec.pre6 enc Try.prog Try.f7 [] false) (Rows.codecSealSpec.post enc Try.prog Try.f7 false true false false) := by
  refine law_lift (C := Try.checked) (tb := 4) started Try.own Try.laidOut (by kernel_rfl) Try.func7 (by kernel_rfl) rfl Try.underlying4 rfl ?_
    (ChangeSpec.witness6 (enc := enc) (C := Try.checked) false ⟨#[], #[.string ByteArray.empty, .int .i64 0, .int .u8 0], []⟩ 8 (by kernel_rfl) (by kernel_rfl) (by kernel_rfl) (by kernel_rfl)) ?_
  · intro ds h
    match ds, h with
    | [_, _, _], _ => rfl
  · intro W base vs ds ps hval hA hsz
    have hp : Try.f7.params.toList = [9, 3, 5] := by rw [Try.params7]
    rw [hp] at hval hA hsz
    obtain ⟨v0, vs0, d0, ds0, p0, q0, rfl, rfl, rfl, h0, r0⟩ := trodAll_cons hA
    obtain ⟨v1, vs1, d1, ds1, p1, q1, rfl, rfl, rfl, h1, r1⟩ := trodAll_cons r0
    obtain ⟨v2, vs2, d2, ds2, p2, q2, rfl, rfl, rfl, h2, r2⟩ := trodAll_cons r1
    obtain ⟨rfl, rfl, rfl⟩ := trodAll_nil r2
    obtain ⟨a0, rfl, rfl, rfl, w0⟩ := open_string Try.underlying9 (hval 0 9 v0 rfl rfl) h0
    have l0 : a0.size ≤ 140737488351232 := by have := sized_string hsz (j := 0) (t := 9) rfl rfl; simpa [reachBytes] using this
    obtain ⟨a1, rfl, rfl, rfl, w1⟩ := open_int Try.underlying3 (hval 1 3 v1 rfl rfl) h1
    obtain ⟨a2, rfl, rfl, rfl, w2⟩ := open_int Try.underlying5 (hval 2 5 v2 rfl rfl) h2
    exact codecSeal_walk a0 a1 a2 W l0 (int_of_wf w1) (int_of_wf w2)

theorem codecSeal_holds : Rows.CodecSealSaid :=
  OpenClaim.holds_of_wide 7 Try.f7 rfl rfl rfl rfl rfl rfl rfl ⟨rfl, rfl, rfl, rfl, rfl⟩ rfl rfl rfl rfl rfl (by kernel_rfl) Try.func7 (by kernel_rfl)
    (of_decide_eq_true (by kernel_rfl)) (by unfold Func.isWrapper; first | (rw [if_pos (by decide +kernel)]; kernel_rfl) | (rw [if_neg (by decide +kernel)]; exact ⟨rfl, rfl⟩))
    (fun os started H enc _ => codecSeal_lifted os started H enc)
#print axioms codecSeal_holds
end Go.Proofs.Ytehdimblkaefhaa
