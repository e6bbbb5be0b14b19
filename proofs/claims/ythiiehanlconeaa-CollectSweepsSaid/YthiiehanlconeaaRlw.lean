/-
  The reference of layer 35: Live, walked.
-/
import Derived.Test.YthiiehanlconeaaRlv
namespace Go.Proofs.Ythiiehanlconeaa
open Go.RowKit
set_option linter.unusedVariables false
set_option linter.unusedSimpArgs false

theorem liveR_step {g : Nat → List Nat} {ps : Nat → List (Nat × Nat)} {N f : Nat} {K : List Nat} {p : Nat} : liveR g ps N (f + 1) K p = if (weakP ps (drain g N K p)).length = (drain g N K p).length then weakP ps (drain g N K p) else liveR g ps N f (weakP ps (drain g N K p)) (drain g N K p).length := rfl
theorem pre_get {K K' : List Nat} (h : K <+: K') {i : Nat} (hi : i < K.length) : ∃ hp : i < K'.length, K'[i] = K[i] := by
  obtain ⟨t, rfl⟩ := h
  refine ⟨by rw [List.length_append]; omega, ?_⟩
  rw [List.getElem_append_left hi]
theorem mem_natI (K : List Nat) (i : Nat) : ((i : Int) ∈ natI K) ↔ i ∈ K := by
  unfold natI
  rw [List.mem_map]
  constructor
  · rintro ⟨a, ha, e⟩
    have : a = i := by omega
    subst this; exact ha
  · exact fun h => ⟨i, h, rfl⟩
theorem zip_take {l m : List Nat} {k : Nat} (h : k < l.length) (e : l.length = m.length) : (l.zip m).take (k + 1) = (l.zip m).take k ++ [(l[k], m[k]'(by omega))] := by
  have hl : k < (l.zip m).length := by rw [List.length_zip]; omega
  rw [List.take_succ_eq_append_getElem hl]
  simp
set_option maxHeartbeats 12800000 in
set_option maxRecDepth 100000 in
theorem rlive_any (w : World) (n : Nat) (vx vr vm : Value) (xs : List RObj) (more : List (List Nat)) (Fx Fm : List Nat) (roots : List Nat)
    (hx : Row robjR 81 w vx xs Fx) (hm : Row (natR.row 3) 30 w vm more Fm) (hr : RowAt w 3 1 vr roots.length (intC (natI roots)))
    (ok : XOk n xs more) (hro : ∀ r ∈ roots, r < n) (hrl : roots.length ≤ 1000) :
    Calls Try.prog 12 #[vx, vr, vm] w fun e w' => ∃ v', e = .returned v' ∧ OutI w w' v' (natI (liveR (gR xs more) (psR xs) n (n + 1) (addAll [] roots) 0)) := by
  obtain ⟨ax, cx, rfl, -⟩ := hx.val
  obtain ⟨am, cm, rfl, -⟩ := hm.val
  obtain ⟨ar, cr, rfl, -⟩ := hr.slice
  have HX := Lib.hid hx
  have HM := Lib.hid hm
  have HR := Lib.hid hr
  have HOK := Lib.hid ok
  have HRO := Lib.hid hro
  have hrl' : (roots.length : Int) ≤ 9223372036854775807 := by omega
  have hxl : (xs.length : Int) ≤ 9223372036854775807 := by rw [ok.len]; have := ok.few; omega
  have hml : (more.length : Int) ≤ 9223372036854775807 := by have := ok.mn; omega
  have HXL := Lib.hid ok.len
  clear hx hm hr ok hro hrl
  go_enter Try.func12, Try.ntmps12
  go_wp2_with fail
  go_loopw [7, 8] (fun u7 u8 wr => ∃ (k : Nat) (a : Option Addr) (m c : Nat), k ≤ roots.length ∧ u8 = .int .i64 k ∧ u7 = .slice a m c ∧ Hid (OutI w wr (.slice a m c) (natI (addAll [] (roots.take k)))) ∧ Hid (Good n (addAll [] (roots.take k)))) (fun _ u8 _ => roots.length - (intOf u8).toNat)
  case atStart => exact ⟨0, none, 0, 0, by omega, rfl, rfl, Lib.hid (OutI.nil w), Lib.hid (Good.nil n)⟩
  case round =>
    obtain ⟨k, a, m, c, hk, rfl, rfl, HO, HG⟩ := hrel
    by_cases hlt : k < roots.length
    · have h0 : (0 : Int) ≤ (k : Int) := by omega
      have h1 : (k : Int) < (roots.length : Int) := by omega
      have hr2 := HR.out.chg HO.out.chg (fun _ _ x => x)
      obtain ⟨gr, or_, cr', hv, -, -⟩ := hr2.addr (by omega)
      cases hv
      have c0 := hr2.cellAt k (.int .i64 (roots[k] : Nat)) (by simp [intC, natI, hlt])
      have w64 : IntKind.i64.wrap ((k : Int) + 1) = ((k + 1 : Nat) : Int) := IntWalk.i64_in _ (by omega)
      have hz := HRO.out _ (List.getElem_mem hlt)
      have HT : Hid (addAll [] (roots.take (k + 1)) = addN (addAll [] (roots.take k)) roots[k]) := Lib.hid (by rw [List.take_succ_eq_append_getElem hlt, addAll_snoc])
      have HLT := Lib.hid hlt
      have HNX := Lib.hid (show k + 1 ≤ roots.length from hlt)
      have HG2 := Lib.hid (HG.out.add hz)
      have HFW : Hid (Few ((natI (addAll [] (roots.take k))).length + 1)) := Lib.hid ⟨by rw [natI_len]; have := good_len _ _ HG.out; have := HOK.out.few; omega⟩
      have HAI := Lib.hid (addI_nat (K := addAll [] (roots.take k)) hz)
      clear hk hr2 hz
      generalize roots[k] = z at *
      clear hlt
      have HAD := Lib.hid (radd_any w wr _ _ (z : Int) (n : Int) HO.out HFW.out)
      rw [HAI.out, ← HXL.out] at HAD
      go_wp2_with (first | (go_at_call 32; refine HAD.out.mono ?_; rintro e wa ⟨va, rfl, HQ, -⟩; obtain ⟨aq, cq, rfl, -⟩ := HQ.val))
      go_roundw
      case rel => exact ⟨k + 1, _, _, _, HNX.out, rfl, rfl, by rw [HT.out]; exact Lib.hid HQ, by rw [HT.out]; exact HG2⟩
      case measure => have := HLT.out; simp [intOf, w64]; omega
    · have hk2 : k = roots.length := by omega
      subst hk2
      rw [List.take_length] at HO HG
      clear hlt hk
      go_wp2_with fail
      go_loopw [7, 9] (fun u7 u9 wr => ∃ (K : List Nat) (p f : Nat) (a : Option Addr) (m c : Nat), u7 = .slice a m c ∧ u9 = .int .i64 p ∧ p ≤ n ∧ Hid (p < K.length ∨ (K = [] ∧ p = 0)) ∧ Hid (n + 1 - p ≤ f) ∧ Hid (liveR (gR xs more) (psR xs) n f K p = liveR (gR xs more) (psR xs) n (n + 1) (addAll [] roots) 0) ∧ Hid (OutI w wr (.slice a m c) (natI K)) ∧ Hid (Good n K)) (fun _ u9 _ => n + 1 - (intOf u9).toNat)
      case atStart => exact ⟨addAll [] roots, 0, n + 1, _, _, _, rfl, rfl, Nat.zero_le _, Lib.hid (by cases addAll [] roots <;> simp), Lib.hid (by omega), Lib.hid rfl, HO, HG⟩
      case round =>
        obtain ⟨K, p, f, a, m, c, rfl, rfl, hpn, HP, HF, HT, HO, HG⟩ := hrel
        obtain ⟨f, rfl⟩ : ∃ f', f = f' + 1 := ⟨f - 1, by have := HF.out; omega⟩
        obtain ⟨D1, hD1⟩ : ∃ D1, drain (gR xs more) n K p = D1 := ⟨_, rfl⟩
        have HD0 := Lib.hid hD1
        have HPN := Lib.hid hpn
        have HPK : Hid (p ≤ K.length) := Lib.hid (by
          rcases HP.out with h | ⟨h, rfl⟩
          · omega
          · exact Nat.zero_le _)
        have HD1L : Hid (p < D1.length ∨ D1 = [] ∧ p = 0) := Lib.hid (by
          rcases HP.out with h | ⟨rfl, rfl⟩
          · exact .inl (by rw [← hD1]; exact Nat.lt_of_lt_of_le h (drain_len _ _ _))
          · exact .inr ⟨by rw [← hD1]; exact drain_none (by simp), rfl⟩)
        have HD1G : Hid (Good n D1) := Lib.hid (by rw [← hD1]; exact Good.drain HOK.out.g n p HG.out)
        clear hD1 hpn
        go_wp2_with fail
        go_loopw [7, 9] (fun u7 u9 wr => ∃ (K2 : List Nat) (p2 f2 : Nat) (a : Option Addr) (m c : Nat), u7 = .slice a m c ∧ u9 = .int .i64 p2 ∧ p2 ≤ K2.length ∧ Hid (n - p2 ≤ f2) ∧ Hid (drain (gR xs more) f2 K2 p2 = D1) ∧ Hid (OutI w wr (.slice a m c) (natI K2)) ∧ Hid (Good n K2)) (fun _ u9 _ => n - (intOf u9).toNat)
        case atStart => exact ⟨K, p, n, a, m, c, rfl, rfl, HPK.out, Lib.hid (by omega), HD0, HO, HG⟩
        case round =>
          obtain ⟨K2, p2, f2, a2, m2, c2, rfl, rfl, hp2, HF2, HDR, HO2, HG2⟩ := hrel
          clear HO HG
          have HKL := Lib.hid (good_len _ _ HG2.out)
          have h0 : (0 : Int) ≤ (p2 : Int) := by omega
          obtain ⟨a2', c2', hv, -, -⟩ := HO2.out.val
          cases hv
          rw [natI_len] at *
          by_cases hlt : p2 < K2.length
          · have h1 : (p2 : Int) < (K2.length : Int) := by omega
            obtain ⟨f2, rfl⟩ : ∃ f', f2 = f' + 1 := ⟨f2 - 1, by have := HF2.out; have := HKL.out; omega⟩
            have hdr := HDR.out
            rw [drain_some hlt] at hdr
            obtain ⟨go_, oo, co, hv, c0⟩ := HO2.out.at (k := p2) (by rw [natI_len]; exact hlt)
            rw [natI_len] at hv
            cases hv
            have hgi : (natI K2)[p2]'(by rw [natI_len]; exact hlt) = ((K2[p2] : Nat) : Int) := by simp [natI]
            rw [hgi] at c0
            have hs := HG2.out.lt _ (List.getElem_mem hlt)
            have HPL2 := Lib.hid (show p2 + 1 ≤ K2.length from hlt)
            have HFF2 : Hid (n - (p2 + 1) ≤ f2) := Lib.hid (by have := HF2.out; omega)
            have HPN2 : Hid (p2 < n) := Lib.hid (by have := HKL.out; omega)
            have w64 : IntKind.i64.wrap ((p2 : Int) + 1) = ((p2 + 1 : Nat) : Int) := IntWalk.i64_in _ (by have := HKL.out; have := HOK.out.few; omega)
            generalize K2[p2] = s at *
            have hsx : s < xs.length := by rw [HXL.out]; exact hs
            obtain ⟨gx, ox, cx', hv, v1, v2, v3, HRC⟩ := roOpen HX.out hsx
            cases hv
            obtain ⟨a1, k1, rfl, -⟩ := HRC.r1.slice
            have HRCH := Lib.hid HRC
            have HGE : Hid (gR xs more s = xs[s].strong ++ more.getD s []) := Lib.hid (by unfold gR; rw [getD_get hsx])
            have HSL := Lib.hid (HOK.out.sl _ (List.getElem_mem hsx))
            have HSB := Lib.hid (HOK.out.strong _ (List.getElem_mem hsx))
            rw [HGE.out, addAll_append] at hdr
            have HDR2 := Lib.hid hdr
            have hs0 : (0 : Int) ≤ (s : Int) := by omega
            have hs1 : (s : Int) < (xs.length : Int) := by omega
            have HSN := Lib.hid hs
            clear hgi hs hdr HDR hp2 HRC HF2
            generalize xs[s] = xo at *
            have hstl : (xo.strong.length : Int) ≤ 9223372036854775807 := by have := HSL.out; omega
            have cc1 := HO2.out.chg.cell HRCH.out.c1
            go_upto_region 11 with fail
            go_wp2_with fail
            clear c0 cc1 h1 h0
            go_loopw [7, 11] (fun u7 u11 wr => ∃ (k : Nat) (a : Option Addr) (m c : Nat), u7 = .slice a m c ∧ u11 = .int .i64 k ∧ k ≤ xo.strong.length ∧ Hid (OutI w wr (.slice a m c) (natI (addAll K2 (xo.strong.take k)))) ∧ Hid (Good n (addAll K2 (xo.strong.take k)))) (fun _ u11 _ => xo.strong.length - (intOf u11).toNat)
            case atStart => exact ⟨0, _, _, _, rfl, rfl, Nat.zero_le _, HO2, HG2⟩
            case round =>
              obtain ⟨k, a3, m3, c3, rfl, rfl, hk, HO3, HG3⟩ := hrel
              have cc1 := HO3.out.chg.cell HRCH.out.c1
              by_cases hlt3 : k < xo.strong.length
              · have h0 : (0 : Int) ≤ (k : Int) := by omega
                have h1 : (k : Int) < (xo.strong.length : Int) := by omega
                have hr3 := HRCH.out.r1.chg HO3.out.chg (fun _ _ x => x)
                obtain ⟨gs, os, cs', hv, -, -⟩ := hr3.addr (by omega)
                cases hv
                have c0 := hr3.cellAt k (.int .i64 (xo.strong[k] : Nat)) (by simp [intC, natI, hlt3])
                have w65 : IntKind.i64.wrap ((k : Int) + 1) = ((k + 1 : Nat) : Int) := IntWalk.i64_in _ (by have := HSL.out; omega)
                have hz := HSB.out _ (List.getElem_mem hlt3)
                have HT3 : Hid (addAll K2 (xo.strong.take (k + 1)) = addN (addAll K2 (xo.strong.take k)) xo.strong[k]) := Lib.hid (by rw [List.take_succ_eq_append_getElem hlt3, addAll_snoc])
                have HLT3 := Lib.hid hlt3
                have HNX3 := Lib.hid (show k + 1 ≤ xo.strong.length from hlt3)
                have HG4 := Lib.hid (HG3.out.add hz)
                have HAI := Lib.hid (addI_nat (K := addAll K2 (xo.strong.take k)) hz)
                have HFW : Hid (Few ((natI (addAll K2 (xo.strong.take k))).length + 1)) := Lib.hid ⟨by rw [natI_len]; have := good_len _ _ HG3.out; have := HOK.out.few; omega⟩
                clear hk hr3 hz
                generalize xo.strong[k] = z at *
                have HAD := Lib.hid (radd_any w wr _ _ (z : Int) (n : Int) HO3.out HFW.out)
                rw [HAI.out, ← HXL.out] at HAD
                clear hlt3
                go_wp2_with (first | (go_at_call 32; refine HAD.out.mono ?_; rintro e wa ⟨va, rfl, HQ, -⟩; obtain ⟨aq, cq, rfl, -⟩ := HQ.val))
                go_roundw
                case rel => exact ⟨k + 1, _, _, _, rfl, rfl, HNX3.out, by rw [HT3.out]; exact Lib.hid HQ, by rw [HT3.out]; exact HG4⟩
                case measure => have := HLT3.out; simp [intOf, w65]; omega
              · have hk3 : k = xo.strong.length := by omega
                subst hk3
                rw [List.take_length] at HO3 HG3
                clear hlt3 hk
                obtain ⟨K3, hK3⟩ : ∃ K3, addAll K2 xo.strong = K3 := ⟨_, rfl⟩
                have HK3L : Hid (K2.length ≤ K3.length) := Lib.hid (by rw [← hK3]; exact addAll_len _ _)
                rw [hK3] at HO3 HG3
                rw [hK3] at HDR2
                clear hK3
                obtain ⟨a3', c3', hv, -, -⟩ := HO3.out.val
                cases hv
                by_cases hsm : s < more.length
                · have hsm1 : (s : Int) < (more.length : Int) := by omega
                  obtain ⟨gm, om, cm', hv, v4, cm0, rm0⟩ := mrOpen HM.out hsm
                  cases hv
                  obtain ⟨a4, k4, rfl, -⟩ := rm0.slice
                  have HCM := Lib.hid cm0
                  have HRM := Lib.hid rm0
                  have HML := Lib.hid (HOK.out.ml _ (List.getElem_mem hsm))
                  have HMB := Lib.hid (HOK.out.mores _ (List.getElem_mem hsm))
                  rw [getD_get hsm] at HDR2
                  clear cm0 rm0
                  generalize more[s] = ml at *
                  have hmll : (ml.length : Int) ≤ 9223372036854775807 := by have := HML.out; omega
                  have cc4 := HO3.out.chg.cell HCM.out
                  clear hsm
                  go_wp2_with fail
                  clear cc4 cc1
                  go_loopw [7, 12] (fun u7 u12 wr => ∃ (k : Nat) (a : Option Addr) (m c : Nat), u7 = .slice a m c ∧ u12 = .int .i64 k ∧ k ≤ ml.length ∧ Hid (OutI w wr (.slice a m c) (natI (addAll K3 (ml.take k)))) ∧ Hid (Good n (addAll K3 (ml.take k)))) (fun _ u12 _ => ml.length - (intOf u12).toNat)
                  case atStart => exact ⟨0, _, _, _, rfl, rfl, Nat.zero_le _, HO3, HG3⟩
                  case round =>
                    clear HO3 HG3
                    obtain ⟨k, a3, m3, c3, rfl, rfl, hk, HO3, HG3⟩ := hrel
                    have cc4 := HO3.out.chg.cell HCM.out
                    by_cases hlt3 : k < ml.length
                    · have h0 : (0 : Int) ≤ (k : Int) := by omega
                      have h1 : (k : Int) < (ml.length : Int) := by omega
                      have hr3 := HRM.out.chg HO3.out.chg (fun _ _ x => x)
                      obtain ⟨gs, os, cs', hv, -, -⟩ := hr3.addr (by omega)
                      cases hv
                      have c0 := hr3.cellAt k (.int .i64 (ml[k] : Nat)) (by simp [intC, natI, hlt3])
                      have w65 : IntKind.i64.wrap ((k : Int) + 1) = ((k + 1 : Nat) : Int) := IntWalk.i64_in _ (by have := HML.out; omega)
                      have hz := HMB.out _ (List.getElem_mem hlt3)
                      have HT3 : Hid (addAll K3 (ml.take (k + 1)) = addN (addAll K3 (ml.take k)) ml[k]) := Lib.hid (by rw [List.take_succ_eq_append_getElem hlt3, addAll_snoc])
                      have HLT3 := Lib.hid hlt3
                      have HNX3 := Lib.hid (show k + 1 ≤ ml.length from hlt3)
                      have HG4 := Lib.hid (HG3.out.add hz)
                      have HAI := Lib.hid (addI_nat (K := addAll K3 (ml.take k)) hz)
                      have HFW : Hid (Few ((natI (addAll K3 (ml.take k))).length + 1)) := Lib.hid ⟨by rw [natI_len]; have := good_len _ _ HG3.out; have := HOK.out.few; omega⟩
                      clear hk hr3 hz
                      generalize ml[k] = z at *
                      have HAD := Lib.hid (radd_any w wr _ _ (z : Int) (n : Int) HO3.out HFW.out)
                      rw [HAI.out, ← HXL.out] at HAD
                      clear hlt3
                      go_wp2_with (first | (go_at_call 32; refine HAD.out.mono ?_; rintro e wa ⟨va, rfl, HQ, -⟩; obtain ⟨aq, cq, rfl, -⟩ := HQ.val))
                      go_roundw
                      case rel => exact ⟨k + 1, _, _, _, rfl, rfl, HNX3.out, by rw [HT3.out]; exact Lib.hid HQ, by rw [HT3.out]; exact HG4⟩
                      case measure => have := HLT3.out; simp [intOf, w65]; omega
                    · have hk3 : k = ml.length := by omega
                      subst hk3
                      rw [List.take_length] at HO3 HG3
                      have HKE : Hid (p2 + 1 ≤ (addAll K3 ml).length) := Lib.hid (Nat.le_trans HPL2.out (Nat.le_trans HK3L.out (addAll_len _ _)))
                      clear hlt3 hk
                      go_wp2_with fail
                      go_roundw
                      case rel => exact ⟨addAll K3 ml, p2 + 1, f2, _, _, _, rfl, rfl, HKE.out, HFF2, HDR2, HO3, HG3⟩
                      case measure => have := HPN2.out; simp [intOf, w64]; omega
                · have hsm1 : ¬ (s : Int) < (more.length : Int) := by omega
                  have hge : more.getD s [] = [] := by rw [List.getD_eq_getElem?_getD, List.getElem?_eq_none (by omega)]; rfl
                  rw [hge] at HDR2
                  have HKE : Hid (p2 + 1 ≤ K3.length) := Lib.hid (Nat.le_trans HPL2.out HK3L.out)
                  clear hsm hge
                  go_wp2_with fail
                  go_roundw
                  case rel => exact ⟨K3, p2 + 1, f2, _, _, _, rfl, rfl, HKE.out, HFF2, HDR2, HO3, HG3⟩
                  case measure => have := HPN2.out; simp [intOf, w64]; omega
          · have hDe : D1 = K2 := by rw [← HDR.out, drain_none (by omega)]
            have hpe : p2 = K2.length := by omega
            have h1 : ¬ (p2 : Int) < (K2.length : Int) := by omega
            subst hDe
            subst hpe
            have HTI : Hid ((if (weakP (psR xs) D1).length = D1.length then weakP (psR xs) D1 else liveR (gR xs more) (psR xs) n f (weakP (psR xs) D1) D1.length) = liveR (gR xs more) (psR xs) n (n + 1) (addAll [] roots) 0) := Lib.hid (by
              have h := HT.out
              rw [liveR_step (f := f) (K := K) (p := p), HD0.out] at h
              exact h)
            have HW0 : Hid (D1 = ((D1.take 0).flatMap (psR xs)).foldl wkStep D1) := Lib.hid (by simp)
            have hD1l : (D1.length : Int) ≤ 9223372036854775807 := by have := HKL.out; have := HOK.out.few; omega
            clear HT hlt hp2 HDR HF2 h0
            go_wp2_with fail
            go_loopw [7, 14] (fun u7 u14 wr => ∃ (i : Nat) (K3 : List Nat) (a : Option Addr) (m c : Nat), u7 = .slice a m c ∧ u14 = .int .i64 i ∧ i ≤ D1.length ∧ Hid (K3 = ((D1.take i).flatMap (psR xs)).foldl wkStep D1) ∧ Hid (OutI w wr (.slice a m c) (natI K3)) ∧ Hid (Good n K3) ∧ Hid (D1 <+: K3)) (fun _ u14 _ => D1.length - (intOf u14).toNat)
            case atStart => exact ⟨0, D1, _, _, _, rfl, rfl, Nat.zero_le _, HW0, HO2, HG2, Lib.hid (List.prefix_refl _)⟩
            case round =>
              clear HO2
              obtain ⟨i, K3, a3, m3, c3, rfl, rfl, hi, HW, HO3, HG3, HP3⟩ := hrel
              obtain ⟨a3', c3', hv, -, -⟩ := HO3.out.val
              cases hv
              rw [natI_len] at *
              have h0 : (0 : Int) ≤ (i : Int) := by omega
              by_cases hli : i < D1.length
              · have h2 : (i : Int) < (D1.length : Int) := by omega
                obtain ⟨hiK, hKi⟩ := pre_get HP3.out hli
                have h3 : (i : Int) < (K3.length : Int) := by omega
                obtain ⟨go_, oo, co, hv, c0⟩ := HO3.out.at (k := i) (by rw [natI_len]; exact hiK)
                rw [natI_len] at hv
                cases hv
                have hgi : (natI K3)[i]'(by rw [natI_len]; exact hiK) = ((D1[i] : Nat) : Int) := by
                  have : (natI K3)[i]'(by rw [natI_len]; exact hiK) = ((K3[i] : Nat) : Int) := by simp [natI]
                  rw [this, hKi]
                rw [hgi] at c0
                have hs := HD1G.out.lt _ (List.getElem_mem hli)
                have HWT : Hid (((D1.take (i + 1)).flatMap (psR xs)).foldl wkStep D1 = (psR xs D1[i]).foldl wkStep K3) := Lib.hid (by
                  rw [List.take_succ_eq_append_getElem hli, List.flatMap_append, List.foldl_append, ← HW.out]
                  simp)
                have w66 : IntKind.i64.wrap ((i : Int) + 1) = ((i + 1 : Nat) : Int) := IntWalk.i64_in _ (by omega)
                have HLI := Lib.hid hli
                have HNI := Lib.hid (show i + 1 ≤ D1.length from hli)
                clear hgi hKi
                generalize D1[i] = s at *
                have hsx : s < xs.length := by rw [HXL.out]; exact hs
                obtain ⟨gx, ox, cx', hv, v1, v2, v3, HRC⟩ := roOpen HX.out hsx
                cases hv
                obtain ⟨a1, k1, rfl, -⟩ := HRC.r1.slice
                obtain ⟨aa2, k2, rfl, -⟩ := HRC.r2.slice
                obtain ⟨aa3, k3, rfl, -⟩ := HRC.r3.slice
                have HRCH := Lib.hid HRC
                have HPS : Hid (psR xs s = if xs[s].weak then xs[s].keys.zip xs[s].vals else []) := Lib.hid (by unfold psR; rw [getD_get hsx])
                have HKL2 := Lib.hid (HOK.out.kl _ (List.getElem_mem hsx))
                have HKV := Lib.hid (HOK.out.keys _ (List.getElem_mem hsx))
                have HVB := Lib.hid (HOK.out.vals _ (List.getElem_mem hsx))
                have hs0 : (0 : Int) ≤ (s : Int) := by omega
                have hs1 : (s : Int) < (xs.length : Int) := by omega
                clear hs HRC hli hi hiK HW
                generalize xs[s] = xo at *
                clear hsx
                have hkl : (xo.keys.length : Int) ≤ 9223372036854775807 := by have := HKL2.out; omega
                have b0 := HO3.out.chg.cell HRCH.out.c0
                have b1 := HO3.out.chg.cell HRCH.out.c1
                have b2 := HO3.out.chg.cell HRCH.out.c2
                have b3 := HO3.out.chg.cell HRCH.out.c3
                go_upto_region 24 with fail
                have hb15 := alloc_block wr (.cells #[.bool xo.weak, .slice a1 xo.strong.length k1, .slice aa2 xo.keys.length k2, .slice aa3 xo.vals.length k3] 81)
                have HO4 := Lib.hid (HO3.out.alloc (.cells #[.bool xo.weak, .slice a1 xo.strong.length k1, .slice aa2 xo.keys.length k2, .slice aa3 xo.vals.length k3] 81))
                have HB15 := Lib.hid hb15
                clear hb15 b0 b1 b2 b3 c0 HO3 h2 h3 h0
                generalize wr.alloc (.cells #[.bool xo.weak, .slice a1 xo.strong.length k1, .slice aa2 xo.keys.length k2, .slice aa3 xo.vals.length k3] 81) = W15 at *
                generalize wr.heap.size = b15 at *
                have HK0 : Hid (K3 = ((xo.keys.zip xo.vals).take 0).foldl wkStep K3) := Lib.hid (by simp)
                go_wp2_with fail
                go_loopw [7, 16] (fun u7 u16 wr => ∃ (k : Nat) (K4 : List Nat) (a : Option Addr) (m c : Nat), u7 = .slice a m c ∧ u16 = .int .i64 k ∧ k ≤ xo.keys.length ∧ Hid (xo.weak = false → k = 0) ∧ Hid (K4 = ((xo.keys.zip xo.vals).take k).foldl wkStep K3) ∧ Hid (OutI w wr (.slice a m c) (natI K4)) ∧ Hid (Good n K4) ∧ Hid (D1 <+: K4) ∧ Hid (wr.heap[b15]? = some (.cells #[.bool xo.weak, .slice a1 xo.strong.length k1, .slice aa2 xo.keys.length k2, .slice aa3 xo.vals.length k3] 81 (0, 0)))) (fun _ u16 _ => xo.keys.length - (intOf u16).toNat)
                case atStart => exact ⟨0, K3, _, _, _, rfl, rfl, Nat.zero_le _, Lib.hid (fun _ => rfl), HK0, HO4, HG3, HP3, HB15⟩
                case round =>
                  clear HO4 HB15 HG3 HP3
                  obtain ⟨k, K4, a4, m4, c4, rfl, rfl, hk, HWF, HK4, HO4, HG3, HP4, HB15⟩ := hrel
                  have t0 := cell_of_block (i := 0) HB15.out rfl
                  have t2 := cell_of_block (i := 2) HB15.out rfl
                  have t3 := cell_of_block (i := 3) HB15.out rfl
                  simp only [List.getElem_toArray, List.getElem_cons_zero, List.getElem_cons_succ] at t0 t2 t3
                  obtain ⟨a4', c4', hv, -, -⟩ := HO4.out.val
                  cases hv
                  have h0 : (0 : Int) ≤ (k : Int) := by omega
                  cases hwk : xo.weak with
                  | false =>
                    rw [hwk] at t0
                    have HE : Hid (K4 = (psR xs s).foldl wkStep K3) := Lib.hid (by
                      rw [HPS.out, hwk, HK4.out, HWF.out hwk]
                      simp)
                    go_wp2_with fail
                    go_roundw
                    case rel => exact ⟨i + 1, K4, _, _, _, rfl, rfl, HNI.out, Lib.hid (by rw [HWT.out, HE.out]), HO4, HG3, HP4⟩
                    case measure => have := HLI.out; simp [intOf, w66]; omega
                  | true =>
                    rw [hwk] at t0 HB15
                    by_cases hlk : k < xo.keys.length
                    · have h2 : (k : Int) < (xo.keys.length : Int) := by omega
                      have h3 : (k : Int) < (xo.vals.length : Int) := by rw [← HKV.out]; exact h2
                      have hlv : k < xo.vals.length := by rw [← HKV.out]; exact hlk
                      have hr2 := HRCH.out.r2.chg HO4.out.chg (fun _ _ x => x)
                      obtain ⟨g2, o2, cc2, hv, -, -⟩ := hr2.addr (by omega)
                      cases hv
                      have hr3 := HRCH.out.r3.chg HO4.out.chg (fun _ _ x => x)
                      obtain ⟨g3, o3, cc3, hv, -, -⟩ := hr3.addr (by omega)
                      cases hv
                      have d2 := hr2.cellAt k (.int .i64 (xo.keys[k] : Nat)) (by simp [intC, natI, hlk])
                      have d3 := hr3.cellAt k (.int .i64 (xo.vals[k] : Nat)) (by simp [intC, natI, hlv])
                      have hz := HVB.out _ (List.getElem_mem hlv)
                      have w67 : IntKind.i64.wrap ((k : Int) + 1) = ((k + 1 : Nat) : Int) := IntWalk.i64_in _ (by have := HKL2.out; omega)
                      have HZT : Hid (((xo.keys.zip xo.vals).take (k + 1)).foldl wkStep K3 = wkStep K4 (xo.keys[k], xo.vals[k])) := Lib.hid (by
                        rw [zip_take hlk HKV.out, List.foldl_append, ← HK4.out]
                        rfl)
                      have HLK := Lib.hid hlk
                      have HNK := Lib.hid (show k + 1 ≤ xo.keys.length from hlk)
                      have HG4 := Lib.hid (HG3.out.add hz)
                      have HAI := Lib.hid (addI_nat (K := K4) hz)
                      have HFW : Hid (Few ((natI K4).length + 1)) := Lib.hid ⟨by rw [natI_len]; have := good_len _ _ HG3.out; have := HOK.out.few; omega⟩
                      clear hr2 hr3 hz hk
                      generalize xo.keys[k] = ky at *
                      generalize xo.vals[k] = vy at *
                      clear hlk hlv
                      have HHS := Lib.hid (rhas_any wr _ (natI K4) (ky : Int) HO4.out.row ⟨by have := HFW.out.lt; omega⟩)
                      have HAD := Lib.hid (radd_any w wr _ _ (vy : Int) (n : Int) HO4.out HFW.out)
                      rw [HAI.out, ← HXL.out] at HAD
                      cases hin : decide ((ky : Int) ∈ natI K4) with
                      | false =>
                        rw [hin] at HHS
                        have HE : Hid (wkStep K4 (ky, vy) = K4) := Lib.hid (by
                          have : ¬ ky ∈ K4 := fun x => by simpa using (of_decide_eq_false hin) ((mem_natI K4 ky).2 x)
                          unfold wkStep; rw [if_neg this])
                        clear HAD hin
                        go_wp2_with (first | (go_at_call 24; refine HHS.out.mono ?_; rintro e wa ⟨rfl, rfl⟩))
                        go_roundw
                        case rel => exact ⟨k + 1, K4, _, _, _, rfl, rfl, HNK.out, Lib.hid (fun h => by cases h), Lib.hid (by rw [HZT.out, HE.out]), HO4, HG3, HP4, HB15⟩
                        case measure => have := HLK.out; simp [intOf, w67]; omega
                      | true =>
                        rw [hin] at HHS
                        have HE : Hid (wkStep K4 (ky, vy) = addN K4 vy) := Lib.hid (by
                          have : ky ∈ K4 := (mem_natI K4 ky).1 (of_decide_eq_true hin)
                          unfold wkStep; rw [if_pos this])
                        clear hin
                        go_wp2_with (first
                          | (go_at_call 24; refine HHS.out.mono ?_; rintro e wa ⟨rfl, rfl⟩)
                          | (go_at_call 32; refine HAD.out.mono ?_; rintro e wa ⟨va, rfl, HQ, hcq⟩; obtain ⟨aq, cq, rfl, -⟩ := HQ.val))
                        go_roundw
                        case rel => exact ⟨k + 1, addN K4 vy, _, _, _, rfl, rfl, HNK.out, Lib.hid (fun h => by cases h), Lib.hid (by rw [HZT.out, HE.out]), Lib.hid HQ, HG4, Lib.hid (HP4.out.trans (addN_prefix _ _)), Lib.hid (hcq.keep HB15.out (fun x => x))⟩
                        case measure => have := HLK.out; simp [intOf, w67]; omega
                    · have hke : k = xo.keys.length := by omega
                      have h2 : ¬ (k : Int) < (xo.keys.length : Int) := by omega
                      have HE : Hid (K4 = (psR xs s).foldl wkStep K3) := Lib.hid (by
                        rw [HPS.out, hwk, HK4.out, List.take_of_length_le (by rw [List.length_zip]; omega)]
                        simp)
                      go_wp2_with fail
                      go_roundw
                      case rel => exact ⟨i + 1, K4, _, _, _, rfl, rfl, HNI.out, Lib.hid (by rw [HWT.out, HE.out]), HO4, HG3, HP4⟩
                      case measure => have := HLI.out; simp [intOf, w66]; omega
              · have hie : i = D1.length := by omega
                subst hie
                have HKW : Hid (K3 = weakP (psR xs) D1) := Lib.hid (by rw [HW.out, List.take_length]; rfl)
                have hnl : ¬ ((D1.length : Nat) : Int) < (D1.length : Int) := by omega
                clear hli hi
                cases heq : ((K3.length : Int) == (D1.length : Int)) with
                | true =>
                  have HQ : Hid (K3 = liveR (gR xs more) (psR xs) n (n + 1) (addAll [] roots) 0) := Lib.hid (by
                    have h := HTI.out
                    have hl : K3.length = D1.length := by have := beq_iff_eq.1 heq; omega
                    rw [← HKW.out, if_pos hl] at h
                    exact h)
                  go_wp2_with fail
                  go_ret
                  exact ⟨_, rfl, by rw [← HQ.out]; exact HO3.out⟩
                | false =>
                  have hne : K3.length ≠ D1.length := fun h => by rw [h] at heq; simp at heq
                  have HQ : Hid (liveR (gR xs more) (psR xs) n f K3 D1.length = liveR (gR xs more) (psR xs) n (n + 1) (addAll [] roots) 0) := Lib.hid (by
                    have h := HTI.out
                    rw [← HKW.out, if_neg hne] at h
                    exact h)
                  have HLL : Hid (D1.length < K3.length) := Lib.hid (by have := HP3.out.length_le; omega)
                  have HPD : Hid (p < D1.length) := Lib.hid (by
                    rcases HD1L.out with h | ⟨h, -⟩
                    · exact h
                    · exfalso
                      have := HKW.out
                      rw [h] at this hne
                      rw [this] at hne
                      exact hne rfl)
                  have HFN : Hid (n + 1 - D1.length ≤ f) := Lib.hid (by have := HF.out; have := HPD.out; omega)
                  have HDN : Hid (D1.length ≤ n) := Lib.hid (good_len _ _ HD1G.out)
                  clear hne
                  go_wp2_with fail
                  go_roundw
                  case rel => exact ⟨K3, D1.length, f, _, _, _, rfl, rfl, HDN.out, Lib.hid (.inl HLL.out), HFN, HQ, HO3, HG3⟩
                  case measure => have := HPD.out; have := HDN.out; simp [intOf]; omega
end Go.Proofs.Ythiiehanlconeaa
