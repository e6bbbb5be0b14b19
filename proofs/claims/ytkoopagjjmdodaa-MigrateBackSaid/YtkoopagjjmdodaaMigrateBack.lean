/-
  MigrateBack: a page that is withdrawn runs again at its machine, or at the other one, and never at both; for all sizes and all deliveries.
-/
import Derived.Test.YtkoopagjjmdodaaLaw
import Derived.Test.YtkoopagjjmdodaaArgsM
import Derived.Test.YtkoopagjjmdodaaProt
import Derived.Test.YtkoopagjjmdodaaWlda
import Derived.Test.YtkoopagjjmdodaaText
import Derived.Test.YtkoopagjjmdodaaHany
import Derived.Test.YtkoopagjjmdodaaLater
namespace Go.Proofs.Ytkoopagjjmdodaa
set_option linter.unusedVariables false
set_option linter.unusedSimpArgs false
open Go.ChangeShapes Go.WideShapes Go.ChangeAt Go.RowKit
open Go.ChangeMaps (open_string shut_string)

/-- The page p goes from the machine 0 to the machine 2. -/
abbrev tB (letter : ByteArray) : Trip := ⟨⟨#[112]⟩, 0, 2, 2, letter⟩
theorem partsL_few : ∀ (n : Nat) (l : ByteArray), l.size ≤ n → (partsL l).length ≤ l.size / 1000 + 1 := partsL_length
theorem tB_ok {letter : ByteArray} (hn : letter.size < 5000) : (tB letter).Ok := by
  refine ⟨by show 1 ≤ 1 ∧ 1 ≤ 200; omega, by show (0 : Int) ≤ 0; omega, by show (0 : Int) ≤ 2; omega, by show (0 : Int) ≠ 2; omega, by show (2 : Int) ≤ 2; omega, ?_⟩
  show (partsL letter).length ≤ _
  have := partsL_length _ letter (Nat.le_refl _)
  omega
theorem wd0_rest {letter : ByteArray} (hn : letter.size < 5000) : Rest (tB letter) 0 2 wd0 :=
  ⟨tB_ok hn, by omega, by omega, by omega, rfl, rfl, by show letter.size ≤ _; omega, rfl, wd0_hosts (tB letter) rfl rfl⟩
/-- Behind i of L deliveries. -/
structure BI (letter : ByteArray) (L i : Nat) (d : Wd) : Prop where
  ex : ∃ σ ρ, WI (tB letter) 0 2 (L / 2 < i) σ ρ d
  lite : wts d.way ≤ 30 + 4 * i
  bd : WdB (10 + 2 * i) (100000 + 10 * i) 0 d
theorem BI.start {letter : ByteArray} (hn : letter.size < 5000) (L : Nat) : (handM (wd0.host 0) ⟨#[112]⟩ letter 2).1 = 0 ∧ BI letter L 0 (collectM (wd0.put 0 (handM (wd0.host 0) ⟨#[112]⟩ letter 2).2)) := by
  obtain ⟨h1, h2, h3⟩ := (wd0_rest hn).begin
  have hP := partsL_length _ letter (Nat.le_refl _)
  refine ⟨h1, ⟨_, _, h2.weak (fun h => h.elim)⟩, ?_, ?_⟩
  · have h4 := wts_msgs (tB letter)
    rw [← h3] at h4
    have h5 : (tB letter).L.length ≤ letter.size / 1000 + 1 := hP
    have h6 : wts (collectM (wd0.put 0 (handM (wd0.host 0) ⟨#[112]⟩ letter 2).2)).way = 2 + 2 * (tB letter).L.length := h4
    omega
  · have h4 := hand_in (page := ⟨#[112]⟩) (letter := letter) (dst := 2) (by decide) (Nat.le_refl _) (by omega) (wd0_in.host 0)
    exact (wd0_in.put 0 h4 (by omega) (by omega)).collect.mono (by omega) (by omega) (Nat.le_refl _)
/-- What Withdraw finds in the middle. -/
theorem BI.middle {letter : ByteArray} {L i : Nat} {d : Wd} (B : BI letter L i d) (hi : i = L / 2) :
    ((withdrawM (d.host 0) ⟨#[112]⟩).1 != 0 && !(runsM (d.host 2) ⟨#[112]⟩).2) = false ∧ (∃ σ ρ, WI (tB letter) 0 2 (L / 2 < i + 1) σ ρ (collectM (d.put 0 (withdrawM (d.host 0) ⟨#[112]⟩).2))) ∧
      wts (collectM (d.put 0 (withdrawM (d.host 0) ⟨#[112]⟩).2)).way ≤ 32 + 4 * i ∧ WdB (10 + 2 * i) (100003 + 10 * i) 0 (collectM (d.put 0 (withdrawM (d.host 0) ⟨#[112]⟩).2)) := by
  obtain ⟨σ, ρ, W⟩ := B.ex
  have hw : L / 2 < i + 1 := by omega
  have hbd : WdB (10 + 2 * i) (100003 + 10 * i) 0 (collectM (d.put 0 (withdrawM (d.host 0) ⟨#[112]⟩).2)) :=
    (B.bd.put 0 (withdraw_in (page := ⟨#[112]⟩) (by decide) (by omega) (B.bd.host 0)) (Nat.le_refl _) (Nat.zero_le _)).collect.mono (Nat.le_refl _) (by omega) (Nat.le_refl _)
  obtain ⟨k1, k2⟩ := (W.weak (fun h => by omega : L / 2 < i → L / 2 < i + 1)).withdraw hw
  have hwt := B.lite
  by_cases hσ : σ = .off
  · obtain ⟨e1, e2, e3⟩ := k1 hσ
    have e1' : (withdrawM (d.host 0) ⟨#[112]⟩).1 = 0 := e1
    have e3' : (collectM (d.put 0 (withdrawM (d.host 0) ⟨#[112]⟩).2)).way = d.way ++ [(tB letter).cancel] := e3
    refine ⟨by rw [e1']; rfl, ⟨_, _, e2⟩, ?_, hbd⟩
    rw [e3', wts_append]
    have : wts [(tB letter).cancel] = 2 := rfl
    omega
  · obtain ⟨e1, e2, e3⟩ := k2 hσ
    have hg : σ = .gone := by
      cases σ with
      | off => exact absurd rfl hσ
      | gone => rfl
      | can => have := W.link.wdr (.inl rfl); omega
      | back => have := W.link.wdr (.inr (.inl rfl)); omega
    have hr := (W.runsB.1 (W.link.gone hg)).1
    have hr' : runsM (d.host 2) ⟨#[112]⟩ = (2, true) := hr
    have e3' : (collectM (d.put 0 (withdrawM (d.host 0) ⟨#[112]⟩).2)).way = d.way := e3
    refine ⟨by rw [hr']; simp, ⟨_, _, e2⟩, by rw [e3']; omega, hbd⟩
/-- A message is delivered. -/
theorem BI.next {letter : ByteArray} {L i : Nat} {d : Wd} (hex : ∃ σ ρ, WI (tB letter) 0 2 (L / 2 < i + 1) σ ρ d) (hwt : wts d.way ≤ 32 + 4 * i) (hbd : WdB (10 + 2 * i) (100003 + 10 * i) 0 d) {m : Msg} {l : List Msg} (hm : m ∈ d.way) (hl : ∀ x ∈ l, x ∈ d.way) (hlw : wts l ≤ wts d.way) (hll : l.length ≤ d.way.length) :
    (m.dst = 0 ∨ m.dst = 2) ∧ BI letter L (i + 1) (collectM (recvW { d with way := l } m)) ∧ (runningK (collectM (recvW { d with way := l } m)) ⟨#[112]⟩ 3).1 ≤ 1 := by
  obtain ⟨σ, ρ, W⟩ := hex
  have hdst : m.dst = 0 ∨ m.dst = 2 := by
    obtain ⟨-, -, h⟩ := (W.ways m hm).dest
    rcases h with ⟨-, h⟩ | ⟨-, h⟩
    · exact .inr h
    · exact .inl h
  obtain ⟨σ', ρ', out, W', h1, h2⟩ := W.deliver hm hl
  have hlt := h2.light
  have hwm : wt m ≤ 3 := by
    unfold wt
    split
    · omega
    · split
      · omega
      · omega
  have hlen := hbd.len
  refine ⟨hdst, ⟨⟨σ', ρ', W'⟩, by rw [h1, wts_append]; omega, ?_⟩, W'.running⟩
  exact ((hbd.cut (l := l) (by omega) hl).recv (hbd.ways m hm)).collect.mono (by omega) (by omega) (Nat.le_refl _)
theorem BI.skip {letter : ByteArray} {L i : Nat} {d : Wd} (hex : ∃ σ ρ, WI (tB letter) 0 2 (L / 2 < i + 1) σ ρ d) (hwt : wts d.way ≤ 32 + 4 * i) (hbd : WdB (10 + 2 * i) (100003 + 10 * i) 0 d) : BI letter L (i + 1) d :=
  ⟨hex, by omega, hbd.mono (by omega) (by omega) (Nat.le_refl _)⟩
/-- The end. -/
theorem BI.final {letter : ByteArray} {L i : Nat} {d : Wd} (B : BI letter L i d) (hi : i ≤ 40) (hn : letter.size < 5000) :
    (runsM ((quietM d 3).host 0) ⟨#[112]⟩ = (3, true) ∧ runsM ((quietM d 3).host 2) ⟨#[112]⟩ = (0, false)) ∨ (runsM ((quietM d 3).host 0) ⟨#[112]⟩ = (0, false) ∧ runsM ((quietM d 3).host 2) ⟨#[112]⟩ = (2, true) ∧ letterM ((quietM d 3).host 2) ⟨#[112]⟩ = (letter, true)) := by
  obtain ⟨σ, ρ, W⟩ := B.ex
  have hwt := B.lite
  have hP := partsL_length _ letter (Nat.le_refl _)
  obtain ⟨σ', ρ', W', -, h⟩ := W.quiet (by omega) (by show (partsL letter).length ≤ 16; omega)
  rcases h with ⟨h1, h2⟩ | ⟨h1, h2⟩
  · refine .inr ⟨W'.runsA.2 (by rw [h1]; simp), ?_⟩
    exact W'.runsB.1 h2
  · exact .inl ⟨W'.runsA.1 h1, W'.runsB.2 (by rw [h2]; simp)⟩

set_option maxHeartbeats 6400000 in
set_option maxRecDepth 100000 in
theorem migrateBack_walk (s : Int) (v : Value) (zs : List Int) (w : World) (hs : IntKind.u16.min ≤ s ∧ s ≤ IntKind.u16.max) (hrow : ArgRow w v (zs.map (Value.int .u8))) (hz : ∀ z ∈ zs, 0 ≤ z ∧ z ≤ 255) :
    Calls Try.prog 8 #[.int .u16 s, v] w fun e w' => e = .returned (.bool true) ∧ Below w.heap.size w w' := by
  have e1 : IntKind.u16.min = 0 := by decide
  have e2 : IntKind.u16.max = 65535 := by decide
  rw [e1, e2] at hs
  clear e1 e2
  obtain ⟨s1, s2⟩ := hs
  obtain ⟨a, cap, rfl, hlc, hcm, -⟩ := id hrow
  rw [List.length_map] at *
  have HAR := Lib.hid hrow
  have HZ := Lib.hid hz
  have hzl : (zs.length : Int) ≤ 9223372036854775807 := by unfold maxLen at hcm; omega
  clear hrow hz hlc hcm
  by_cases h40 : 40 < zs.length
  · have hd : decide ((40 : Int) < (zs.length : Int)) = true := by simp; omega
    clear h40
    go_enter Try.func8, Try.ntmps8
    go_wp2_with fail
    refine (awake_any w).mono ?_
    rintro e w1 ⟨rfl, hc1⟩
    go_wp2_with fail
    refine (awake_any w1).mono ?_
    rintro e w2 ⟨rfl, hc2⟩
    go_wp2_with fail
    go_ret
    exact ⟨rfl, (hc1.trans' hc2).below (Nat.le_refl _) (fun _ h => h.elim)⟩
  · have hd : decide ((40 : Int) < (zs.length : Int)) = false := by simp; omega
    have H40 := Lib.hid h40
    clear h40
    go_enter Try.func8, Try.ntmps8
    go_wp2_with fail
    refine (awake_any w).mono ?_
    rintro e w1 ⟨rfl, hc1⟩
    go_wp2_with fail
    refine (newWorld_any w1).mono ?_
    rintro e w2 ⟨b, F2, rfl, O2⟩
    have HO2 := Lib.hid (O2.from hc1)
    clear O2 hc1
    go_upto_region 4 with fail
    clear hd
    go_upto_region 5 with fail
    obtain ⟨n, hn⟩ : ∃ n : Nat, s % 4000 = (n : Int) := ⟨(s % 4000).toNat, by omega⟩
    have hn6 : n < 4000 := by omega
    rw [hn]
    have HN6 := Lib.hid hn6
    clear hn s1 s2 hn6
    refine (text_any n 1 w2 (by have := HN6.out; omega) (by omega)).mono ?_
    rintro e w3 ⟨rfl, hc3⟩
    have HTX : Hid ((textB n 1).size < 4000) := Lib.hid (by rw [textB_size]; exact HN6.out)
    have O3 := HO2.out.still hc3
    have HO3 := Lib.hid O3
    clear hc3 HO2
    generalize textB n 1 = letter at *
    obtain ⟨G3, HS3, -, hb3⟩ := wdHost O3.here 0 (by omega)
    have HB3 := Lib.hid hb3
    clear O3 hb3
    go_wp2_with fail
    refine (withdraw_any w3 b 0 _ G3 ⟨#[112]⟩ HS3 ⟨by show 0 < 1000000000; omega⟩).mono ?_
    rintro e w4 ⟨rfl, hp4⟩
    have hwd : withdrawM (wd0.host 0) ⟨#[112]⟩ = (7, wd0.host 0) := by
      unfold withdrawM
      rw [show findS ⟨#[112]⟩ (wd0.host 0).seats 0 = some 0 from findS_self _ _ _ rfl]
      rfl
    rw [hwd] at hp4 ⊢
    obtain ⟨⟨F4, H4, S4⟩, -⟩ := HB3.out _ _ hp4
    have O4 : Own wdR w w4 b 0 (wd0.put 0 (wd0.host 0)) F4 := HO3.out.step H4 S4
    have hst := BI.start (letter := letter) (by have := HTX.out; omega) zs.length
    change Own wdR w w4 b 0 wd0 F4 at O4
    obtain ⟨G5, HS5, -, hb5⟩ := wdHost O4.here 0 (by omega)
    have HB5 := Lib.hid hb5
    have HO4 := Lib.hid O4
    have HST := Lib.hid hst
    have hha := hand_any w4 b 0 _ G5 ⟨#[112]⟩ letter 2 HS5 (by have := HTX.out; omega) (fun s hs => by rw [List.mem_singleton.1 (show s ∈ [newSeat ⟨#[112]⟩] from hs)]; exact ⟨by show (-1000000000 : Int) < 1; omega, by show (1 : Int) < 1000000000; omega⟩) ⟨by show 0 + 20000 < 1000000000; omega⟩
    rw [hst.1] at hha
    have HHA := Lib.hid hha
    clear hwd hp4 H4 S4 O4 hb5 hst hha HS5 HS3 HB3 HO3
    go_wp2_with fail
    refine HHA.out.mono ?_
    rintro e w5 ⟨rfl, hp5⟩
    obtain ⟨⟨F5, H5, S5⟩, -⟩ := HB5.out _ _ hp5
    have O5 := HO4.out.step H5 S5
    have hbi := HST.out.2
    have hbk : WdB 2 20000 20000 (wd0.put 0 (handM (wd0.host 0) ⟨#[112]⟩ letter 2).2) := (wd0_in.put 0 (hand_in (page := ⟨#[112]⟩) (letter := letter) (dst := 2) (by decide) (Nat.le_refl _) (by have := HTX.out; omega) (wd0_in.host 0)) (by omega) (by omega)).mono (by omega) (by omega) (by omega)
    have hcl := collect_any w5 b _ F5 H5 (hbk.collectOk (by omega))
    have HCL := Lib.hid hcl
    have HO5 := Lib.hid O5
    have HBI := Lib.hid hbi
    clear hp5 H5 S5 O5 hbi hbk hcl HB5 HO4 HST HHA
    generalize collectM (wd0.put 0 (handM (wd0.host 0) ⟨#[112]⟩ letter 2).2) = d0 at *
    go_wp2_with fail
    refine HCL.out.mono ?_
    rintro e w6 ⟨rfl, F6, H6, S6⟩
    have HO6 : Hid (∃ F, Own wdR w w6 b 0 d0 F) := Lib.hid ⟨F6, HO5.out.step H6 S6⟩
    clear H6 S6 HCL HO5
    go_wp2_with fail
    go_loopw [7] (fun s7 wr => ∃ (i : Nat) (d : Wd), i ≤ zs.length ∧ s7 = .int .i64 i ∧ Hid (∃ F, Own wdR w wr b 0 d F) ∧ Hid (BI letter zs.length i d)) (fun s7 _ => zs.length - (intOf s7).toNat)
    case atStart => exact ⟨0, d0, Nat.zero_le _, rfl, HO6, HBI⟩
    case round =>
      obtain ⟨i, d, hi, rfl, HO, HB⟩ := hrel
      have i0 : (0 : Int) ≤ (i : Int) := Int.natCast_nonneg _
      clear HO6 HBI
      by_cases hlt : i < zs.length
      · have i1 : (i : Int) < (zs.length : Int) := by omega
        have HLT := Lib.hid hlt
        clear hlt hi
        go_upto_if 61 with fail
        go_cut [7] (fun s7 wx => s7 = .int .i64 i ∧ ∃ d1, Hid (∃ F, Own wdR w wx b 0 d1 F) ∧ Hid (∃ σ ρ, WI (tB letter) 0 2 (zs.length / 2 < i + 1) σ ρ d1) ∧ Hid (wts d1.way ≤ 32 + 4 * i) ∧ Hid (WdB (10 + 2 * i) (100003 + 10 * i) 0 d1))
        case first =>
          by_cases hm : i = zs.length / 2
          · have hm1 : ((i : Int) == (zs.length : Int) / 2) = true := by simp; omega
            obtain ⟨m1, m2, m3, m4⟩ := HB.out.middle hm
            obtain ⟨F1, O1⟩ := HO.out
            have hbd := HB.out.bd
            obtain ⟨G, HS, -, hback⟩ := wdHost O1.here 0 (by omega)
            have hwa := withdraw_any wr b 0 _ G ⟨#[112]⟩ HS (((hbd.host 0).ok (by have := HLT.out; have := H40.out; omega) (by omega)).out)
            have hOx : ∀ w', WdPost wr b (d.put 0 (withdrawM (d.host 0) ⟨#[112]⟩).2) F1 w' → ∃ F, Own wdR w w' b 0 (d.put 0 (withdrawM (d.host 0) ⟨#[112]⟩).2) F := fun w' ⟨F', a1, a2⟩ => ⟨F', O1.step a1 a2⟩
            have hbw : WdB (10 + 2 * i) (100000 + 10 * i) 1 (d.put 0 (withdrawM (d.host 0) ⟨#[112]⟩).2) := hbd.put 0 (withdraw_in (page := ⟨#[112]⟩) (by decide) (by omega) (hbd.host 0)) (Nat.le_refl _) (Nat.zero_le _)
            have hr2 : (d.put 0 (withdrawM (d.host 0) ⟨#[112]⟩).2).host 2 = d.host 2 := rfl
            generalize hww : withdrawM (d.host 0) ⟨#[112]⟩ = ww at *
            obtain ⟨we, wh⟩ := ww
            simp only at m1 m2 m3 m4 hwa hOx hbw hr2
            generalize hdp : d.put 0 wh = dp at *
            generalize hrr : runsM (d.host 2) ⟨#[112]⟩ = rr at *
            obtain ⟨re, rb⟩ := rr
            simp only at m1
            have HM2 := Lib.hid m2
            have HM3 := Lib.hid m3
            have HM4 := Lib.hid m4
            have HWA := Lib.hid hwa
            have HBK := Lib.hid hback
            have HOX := Lib.hid hOx
            have HBW := Lib.hid hbw
            have HR2 := Lib.hid hr2
            have HRR := Lib.hid hrr
            have HDP := Lib.hid hdp
            have HWE : Hid (we = 0 ∨ ((we != 0) = true ∧ rb = true)) := Lib.hid (by
              by_cases h0 : we = 0
              · exact .inl h0
              · refine .inr ⟨by simpa using h0, ?_⟩
                have h1 : (we != 0) = true := by simpa using h0
                rw [h1] at m1
                simpa using m1)
            clear m1 m2 m3 m4 hwa hback hOx hbw hr2 hrr hdp hww HS O1 hbd hm HB HO
            go_wp2_with fail
            refine HWA.out.mono ?_
            rintro e w2 ⟨rfl, hp2⟩
            have hp3 := (HBK.out _ _ hp2).1
            rw [HDP.out] at hp3
            obtain ⟨F2, O2⟩ := HOX.out _ hp3
            obtain ⟨G2, HS2, -⟩ := wdHost O2.here 2 (by omega)
            rw [HR2.out] at HS2
            have hrn := runs_any w2 b 6 (d.host 2) G2 ⟨#[112]⟩ HS2
            rw [HRR.out] at hrn
            have HRN := Lib.hid hrn
            have HO2 := Lib.hid O2
            clear hp2 hp3 hrn HS2 O2 HBK HOX HWA
            go_wp2_with fail
            refine HRN.out.mono ?_
            rintro e w3 ⟨rfl, hc3⟩
            have O3 := HO2.out.still hc3
            have hcl := collect_any w3 b dp F2 O3.here (HBW.out.collectOk (by have := HLT.out; have := H40.out; omega))
            have HCL := Lib.hid hcl
            have HO3 := Lib.hid O3
            clear hc3 O3 hcl HO2 HRN
            rcases HWE.out with h0 | ⟨h0, h1⟩
            · subst h0
              have hz0 : ((0 : Int) != 0) = false := rfl
              go_wp2_with fail
              refine HCL.out.mono ?_
              rintro e w4 ⟨rfl, F4, a1, a2⟩
              have HOF : Hid (∃ F, Own wdR w w4 b 0 (collectM dp) F) := Lib.hid ⟨F4, HO3.out.step a1 a2⟩
              clear a1 a2 HCL HO3
              go_wp2_with fail
              go_meet
              exact ⟨rfl, collectM dp, HOF, HM2, HM3, HM4⟩
            · subst h1
              go_wp2_with fail
              refine HCL.out.mono ?_
              rintro e w4 ⟨rfl, F4, a1, a2⟩
              have HOF : Hid (∃ F, Own wdR w w4 b 0 (collectM dp) F) := Lib.hid ⟨F4, HO3.out.step a1 a2⟩
              clear a1 a2 HCL HO3
              go_wp2_with fail
              go_meet
              exact ⟨rfl, collectM dp, HOF, HM2, HM3, HM4⟩
          · have hm1 : ((i : Int) == (zs.length : Int) / 2) = false := by simp; omega
            have HMN := Lib.hid hm
            clear hm
            go_wp2_with fail
            go_meet
            obtain ⟨σ, ρ, W⟩ := HB.out.ex
            have hlite := HB.out.lite
            exact ⟨rfl, d, HO, Lib.hid ⟨σ, ρ, W.weak (fun h => by omega)⟩, Lib.hid (by omega), Lib.hid (HB.out.bd.mono (Nat.le_refl _) (by omega) (Nat.le_refl _))⟩
        case rest =>
          obtain ⟨rfl, d1, HO1, HE1, HW1, HB1⟩ := hcut
          clear HO HB
          obtain ⟨F1, O1⟩ := HO1.out
          obtain ⟨a9, cap9, c9, hrow9, hle9, hcap9, fz9⟩ := wayRow O1.here
          have hiz : i < zs.length := HLT.out
          obtain ⟨ga, oa, rfl, hcz⟩ := argCell HAR.out O1.chg (k := i) (u := .int .u8 zs[i]) (by rw [List.getElem?_map, List.getElem?_eq_getElem hiz]; rfl)
          have hzb := HZ.out zs[i] (List.getElem_mem hiz)
          generalize zs[i] = z at *
          clear HO1 hiz
          by_cases hwe : d1.way = []
          · rw [hwe] at c9
            simp only [List.length_nil] at c9
            have HNX := Lib.hid (BI.skip HE1.out HW1.out HB1.out)
            have HOQ : Hid (∃ F, Own wdR w wc b 0 d1 F) := Lib.hid ⟨F1, O1⟩
            clear hwe hrow9 hle9 hcap9 fz9 hcz hzb O1
            go_wp2_with fail
            go_roundw
            case rel => exact ⟨i + 1, d1, HLT.out, by go_num, HOQ, HNX⟩
            case measure => have := HLT.out; simp [intOf]; omega
          · have hpos : 0 < d1.way.length := List.length_pos_iff.2 hwe
            obtain ⟨g, off, cap2, hv, -, -⟩ := RowAt.addr hrow9 hpos
            cases hv
            obtain ⟨N, hN⟩ : ∃ N, d1.way.length = N := ⟨_, rfl⟩
            obtain ⟨j, hj⟩ : ∃ j : Nat, z / 2 % (N : Int) = (j : Int) := ⟨(z / 2 % (N : Int)).toNat, by have := Int.emod_nonneg (z / 2) (show (N : Int) ≠ 0 by omega); omega⟩
            have hjN : j < N := by
              have := Int.emod_lt_of_pos (z / 2) (show 0 < (N : Int) by omega)
              omega
            rw [hN] at c9 hrow9 hle9
            have hN1 : (0 : Int) < (N : Int) := by omega
            have hN2 : (N : Int) ≤ 1000000000 := by have := HB1.out.len; have := HLT.out; have := H40.out; omega
            have l1 := Later.cell hcz
            have l2 := Later.cell c9
            have HO1 := Lib.hid O1
            have HROW := Lib.hid hrow9
            have HNN := Lib.hid hN
            have HJ := Lib.hid hj
            have HJN := Lib.hid hjN
            have HC9 := Lib.hid c9
            have HCZ := Lib.hid hcz
            obtain ⟨z1, z2⟩ := hzb
            unfold maxLen at hcap9
            clear hwe hpos hrow9 hN hj hjN O1 hcz fz9
            go_wp2_with fail
            clear c9
            refine wp_region_later (by kernel_rfl) (by kernel_rfl) ?_
            repeat (go_big_quiet_step (fail))
            refine wpQuiet_nil ?_
            rintro _ ⟨x, rfl⟩
            rw [HJ.out]
            clear l1 l2 z2
            have O2 := HO1.out.still x.chg
            have hr2 := HROW.out.chg x.chg (fun _ _ x => x)
            have c9 := x.chg.cell HC9.out
            have hcz := x.chg.cell HCZ.out
            have hjl : j < d1.way.length := by rw [HNN.out]; exact HJN.out
            have hmem := List.getElem_mem hjl
            have hcell : ∀ (y : Nat) (u : Value), d1.way[j].cells[y]? = some u → x.at_.cell? ⟨g, off + j * 8 + y, none⟩ = some u := fun y u hu => by
              have hy : y < 8 := by have := (List.getElem?_eq_some_iff.1 hu).1; rw [Msg.len] at this; exact this
              have := hr2.cellAt (j * 8 + y) u (by rw [flat_get Msg.cells 8 Msg.len d1.way j y hjl hy]; exact hu)
              rw [← Nat.add_assoc] at this
              exact this
            have HWC := Lib.hid (wts_cut d1.way j hjl)
            generalize hm : d1.way[j] = m at *
            generalize x.at_ = w2 at *
            have b0 := hcell 0 _ rfl
            have b1 := hcell 1 _ rfl
            have b2 := hcell 2 _ rfl
            have b3 := hcell 3 _ rfl
            have b4 := hcell 4 _ rfl
            have b5 := hcell 5 _ rfl
            have b6 := hcell 6 _ rfl
            have b7 := hcell 7 _ rfl
            rw [Nat.add_zero] at b0
            have j0 : (0 : Int) ≤ (j : Int) := Int.natCast_nonneg _
            have j1 : (j : Int) < (N : Int) := by have := HJN.out; omega
            have HMEM := Lib.hid hmem
            have HR2 := Lib.hid hr2
            have HO2 := Lib.hid O2
            have HC92 := Lib.hid c9
            have HCZ2 := Lib.hid hcz
            clear hcell hr2 O2 hmem hjl hm HO1 HROW HC9 HCZ hcz
            go_upto_region 20 with fail
            have hbm := alloc_block w2 (.cells #[.int .i64 m.kind, .int .i64 m.frm, .int .i64 m.dst, .string m.page, .int .i64 m.epoch, .int .i64 m.index, .int .i64 m.count, .string m.data] 39)
            have hc1 := Chg.alloc (fun _ => False) w2 (.cells #[.int .i64 m.kind, .int .i64 m.frm, .int .i64 m.dst, .string m.page, .int .i64 m.epoch, .int .i64 m.index, .int .i64 m.count, .string m.data] 39)
            generalize hmb : w2.heap.size = mb at *
            generalize w2.alloc (.cells #[.int .i64 m.kind, .int .i64 m.frm, .int .i64 m.dst, .string m.page, .int .i64 m.epoch, .int .i64 m.index, .int .i64 m.count, .string m.data] 39) = w3 at *
            have O3 := HO2.out.still hc1
            have hr3 := HR2.out.chg hc1 (fun _ _ x => x)
            have d9 := hc1.cell HC92.out
            have hcz := hc1.cell HCZ2.out
            have hmbl : b < mb := by have := HO2.out.here.lt.1; omega
            have HMBL := Lib.hid hmbl
            have HO3 := Lib.hid O3
            have HR3 := Lib.hid hr3
            have HBM := Lib.hid hbm
            clear hc1 hmb O3 hr3 hbm b0 b1 b2 b3 b4 b5 b6 b7 c9 HR2 HO2 HC92 HCZ2 hmbl
            go_upto_if 113 with fail
            go_cut [7] (fun s7 wx => s7 = .int .i64 i ∧ ∃ l, Hid (∃ F, Own wdR w wx b 0 { d1 with way := l } F) ∧ Hid ((∀ x ∈ l, x ∈ d1.way) ∧ wts l ≤ wts d1.way ∧ l.length ≤ d1.way.length) ∧ Hid (wx.heap[mb]? = some (.cells #[.int .i64 m.kind, .int .i64 m.frm, .int .i64 m.dst, .string m.page, .int .i64 m.epoch, .int .i64 m.index, .int .i64 m.count, .string m.data] 39 (0, 0))))
            case first =>
              by_cases ho : z % 2 = 1
              · have ho1 : (z % 2 == 1) = true := by simpa using ho
                have d9d : w3.drew.cell? ⟨b, 9, none⟩ = some (.slice (some ⟨g, off, none⟩) N cap9) := d9
                have hjN := HJN.out
                have ht1 := fun W => run_takeS (P := Try.prog) W 24 39 8 Try.underlying24 (Try.sizeOf39 W) (some ⟨g, off, none⟩) N cap9 (j : Int) (by omega) (by omega)
                have ht2 := fun W => run_reslS (P := Try.prog) W 24 39 8 Try.underlying24 (Try.sizeOf39 W) (some ⟨g, off, none⟩) N cap9 ((j : Int) + 1) (by omega) (by omega)
                rw [Int.toNat_natCast] at ht1
                rw [show ((j : Int) + 1).toNat = j + 1 by omega] at ht2
                have wj : IntKind.i64.wrap ((j : Int) + 1) = (j : Int) + 1 := IntWalk.i64_in _ (by omega)
                have hcA := (Chg.alloc (fun _ => False) w3 (.cells #[] 39)).drewR
                have hRA := HR3.out.chg hcA (fun _ _ x => x)
                have hX := hRA.prefix (m := j) (by omega)
                have hY := HR3.out.suffix (d := j + 1) (by omega)
                rw [cells_take _ _ (by rw [HNN.out]; omega)] at hX
                rw [cells_skip _ _ (by rw [HNN.out]; omega)] at hY
                generalize hres : reslS 8 (some ⟨g, off, none⟩) N cap9 (j + 1) = vr at *
                have hA := (RowAt.freshAt w3 39 8 w3.heap.size rfl).drew
                have HA := Lib.hid hA
                have HX := Lib.hid hX
                have HY := Lib.hid hY
                have HCA := Lib.hid hcA
                have HE := Lib.hid elem_msg
                have d9A := hcA.cell d9
                clear hA hX hY hRA hcA hres hjN ho hcz
                go_wp2_with fail
                go_region_law ((first
                  | (refine step_append_rows (by rfl) (.tmp 115) (.tmp 121) 24 (by rfl) 39 8 80 Try.underlying24 HE.out (by decide) _ 0 [] (by rfl) HA.out _ j _ (by rfl) HX.out (msg_ones _) (by have := HJN.out; unfold maxLen; omega) (by have := HJN.out; omega) ?_; intro a2 n2 c2 w4 hrow4 hch4 hold4; have hc4 := HCA.out.fresh hch4 (own_at (Nat.le_refl w3.heap.size)); rw [Nat.zero_add, List.nil_append] at hrow4; have hn4 := own_ge hold4 (own_at (Nat.le_refl w3.heap.size)) HCA.out.size; have d94 := hc4.cell d9)
                  | (refine step_append_rows (by rfl) (.tmp 122) (.tmp 129) 24 (by rfl) 39 8 80 Try.underlying24 HE.out (by decide) _ j _ (by rfl) hrow4 _ (N - (j + 1)) _ (by rfl) (HY.out.chg hc4 (fun _ _ x => x)) (msg_ones _) (by have := HJN.out; unfold maxLen; omega) (by have := HJN.out; omega) ?_; intro a5 n5 c5 w5 hrow5 hch5 hold5; have hc5 := hc4.fresh hch5 hn4; have hn5 := own_ge hold5 hn4 hc4.size; have d95 := hc5.cell d9; obtain ⟨_, _, _, _, _, _, fz5⟩ := wayRow (HO3.out.here.still hc5))))
                all_goals (
                  have hr6 := hrow5
                  rw [show j + (N - (j + 1)) = (d1.way.take j ++ d1.way.drop (j + 1)).length by rw [List.length_append, List.length_take, List.length_drop, HNN.out, Nat.min_eq_left (by have := HJN.out; omega)], ← List.flatMap_append] at hr6
                  obtain ⟨F6, k1, k2⟩ := wayNew HO3.out.here hc5 hr6 hn5
                  have HFO : Hid (∃ F, Own wdR w (w5.setCell ⟨b, 9, none⟩ (.slice a5 n5 c5)) b 0 { d1 with way := d1.way.take j ++ d1.way.drop (j + 1) } F) := Lib.hid ⟨F6, HO3.out.step k1 k2⟩
                  have hbq := setCell_other (b := b) (i := 9) (.slice a5 n5 c5) (hc5.keep HBM.out (fun x => x)) (by have := HMBL.out; omega)
                  have HBQ := Lib.hid hbq
                  clear hr6 k1 k2 hbq hrow4 hrow5 hch4 hch5 hold4 hold5 hc4 hc5 hn4 hn5 d94 d95 fz5 d9A
                  go_wp2_with fail
                  go_meet
                  refine ⟨rfl, _, HFO, Lib.hid ⟨fun x hx => mem_cut hx, ?_, ?_⟩, HBQ⟩
                  · have := HWC.out; omega
                  · rw [List.length_append, List.length_take, List.length_drop]; omega)
              · have ho1 : (z % 2 == 1) = false := by simpa using ho
                clear ho
                go_wp2_with fail
                go_meet
                obtain ⟨F3, o3⟩ : ∃ F, Own wdR w w3 b 0 d1 F := ⟨_, HO3.out⟩
                exact ⟨rfl, d1.way, Lib.hid ⟨F3, o3⟩, Lib.hid ⟨fun x hx => hx, Nat.le_refl _, Nat.le_refl _⟩, HBM⟩
            case rest =>
              obtain ⟨rfl, l, HOL, HL, HBL⟩ := hcut
              obtain ⟨hl1, hl2, hl3⟩ := HL.out
              obtain ⟨hdst, hbn, hrn⟩ := BI.next HE1.out HW1.out HB1.out HMEM.out hl1 hl2 hl3
              have hlen := HB1.out.len
              have hBl := HB1.out.cut (l := l) (by omega) hl1
              have hmin := HB1.out.ways m HMEM.out
              obtain ⟨FL, OL⟩ := HOL.out
              generalize hdl : ({ d1 with way := l } : Wd) = dl at *
              have hrv : recvW dl m = dl.put m.dst.toNat (receiveM (dl.host m.dst.toNat) m) := by unfold recvW; rw [if_pos (by omega)]
              have hBr := hBl.recv hmin
              rw [hrv] at hbn hrn hBr
              obtain ⟨G5, HS, -, hback⟩ := wdHost OL.here.drew m.dst.toNat (by omega)
              have hrc := receive_any wc.drew b (m.dst.toNat * 3) _ G5 m HS (by have := hmin.page; omega) (by have := hmin.data; omega) ((hBl.host _).ok (by have := HLT.out; have := H40.out; omega) (by omega))
              unfold Msg.cells at hrc
              have m0 : wc.cell? ⟨mb, 0, none⟩ = some (.int .i64 m.kind) := cell_of_block (i := 0) HBL.out rfl
              have m1 : wc.cell? ⟨mb, 1, none⟩ = some (.int .i64 m.frm) := cell_of_block (i := 1) HBL.out rfl
              have m2 : wc.cell? ⟨mb, 2, none⟩ = some (.int .i64 m.dst) := cell_of_block (i := 2) HBL.out rfl
              have m3 : wc.cell? ⟨mb, 3, none⟩ = some (.string m.page) := cell_of_block (i := 3) HBL.out rfl
              have m4 : wc.cell? ⟨mb, 4, none⟩ = some (.int .i64 m.epoch) := cell_of_block (i := 4) HBL.out rfl
              have m5 : wc.cell? ⟨mb, 5, none⟩ = some (.int .i64 m.index) := cell_of_block (i := 5) HBL.out rfl
              have m6 : wc.cell? ⟨mb, 6, none⟩ = some (.int .i64 m.count) := cell_of_block (i := 6) HBL.out rfl
              have m7 : wc.cell? ⟨mb, 7, none⟩ = some (.string m.data) := cell_of_block (i := 7) HBL.out rfl
              have hd1 : 0 ≤ m.dst := by omega
              have hd2 : m.dst < 3 := by omega
              generalize hdr : dl.put m.dst.toNat (receiveM (dl.host m.dst.toNat) m) = dr at *
              have HRC := Lib.hid hrc
              have HBK := Lib.hid hback
              have HBR := Lib.hid hBr
              have HBN := Lib.hid hbn
              have HRNN := Lib.hid hrn
              have HOLD := Lib.hid OL
              have HDR := Lib.hid hdr
              clear hdst hbn hrn hlen hBl hmin hdl hrv hBr HS hback hrc hl1 hl2 hl3 OL hdr HL HOL HBL HO3 HR3 HBM HMEM HWC HJN HNN HJ HE1 HW1 HB1 d9
              go_wp2_with fail
              go_still_tail 7, (by kernel_rfl)
              change wpList _ _ _ _ _ wc.drew
              go_wp2_with fail
              refine HRC.out.mono ?_
              rintro e w4 ⟨rfl, hp4⟩
              have hp5 := (HBK.out _ _ hp4).1
              rw [HDR.out] at hp5
              obtain ⟨F5, H5, S5⟩ := hp5
              have O5 := (HOLD.out.still ((Chg.refl _ wc).drewR)).step H5 S5
              have hcl := collect_any w4 b _ F5 H5 (HBR.out.collectOk (by have := HLT.out; have := H40.out; omega))
              have HCL5 := Lib.hid hcl
              have HO5 := Lib.hid O5
              clear hcl hp4 H5 S5 O5 HBK HRC m0 m1 m2 m3 m4 m5 m6 m7
              generalize collectM dr = dn at *
              go_wp2_with fail
              refine HCL5.out.mono ?_
              rintro e w5 ⟨rfl, F6, H6, S6⟩
              have O6 := HO5.out.step H6 S6
              have hrun := running_any w5 b dn F6 ⟨#[112]⟩ O6.here
              have hle := HRNN.out
              generalize runningK dn ⟨#[112]⟩ 3 = rk at *
              obtain ⟨rn, re⟩ := rk
              have hd5 : decide ((1 : Int) < ((rn : Nat) : Int)) = false := by simp; simp at hle; omega
              have HRUN := Lib.hid hrun
              have HO6 := Lib.hid O6
              clear H6 S6 O6 hrun hle HCL5 HO5
              go_wp2_with fail
              refine HRUN.out.mono ?_
              rintro e w6 ⟨rfl, hc6⟩
              have HO7 : Hid (∃ F, Own wdR w w6 b 0 dn F) := Lib.hid ⟨_, HO6.out.still hc6⟩
              clear hc6 HO6 HRUN
              go_wp2_with fail
              go_roundw
              case rel => exact ⟨i + 1, dn, HLT.out, by go_num, HO7, HBN⟩
              case measure => have := HLT.out; simp [intOf]; omega
      · have hiz : i = zs.length := by omega
        have hfin := HB.out.final (by have := H40.out; omega) (by have := HTX.out; omega)
        obtain ⟨FL, OL⟩ := HO.out
        have hqu := quiet_any wr b d FL 3 (10 + 2 * i) (100000 + 10 * i) OL.here HB.out.bd (by omega) (by have := H40.out; omega) (by have := H40.out; omega)
        have HQU := Lib.hid hqu
        have HFIN := Lib.hid hfin
        have HOL := Lib.hid OL
        have hx : ¬ (i : Int) < (zs.length : Int) := by omega
        clear hqu hfin OL hlt hi HB HO hiz
        generalize quietM d 3 = dq at *
        go_wp2_with fail
        refine HQU.out.mono ?_
        rintro e w2 ⟨rfl, F2, H2, S2⟩
        have O2 := HOL.out.step H2 S2
        obtain ⟨G0, HS0, -⟩ := wdHost O2.here 0 (by omega)
        have hr0 := runs_any w2 b 0 _ G0 ⟨#[112]⟩ HS0
        have HR0 := Lib.hid hr0
        have HO2 := Lib.hid O2
        clear H2 S2 O2 HS0 hr0 HQU HOL
        go_wp2_with fail
        refine HR0.out.mono ?_
        rintro e w3 ⟨rfl, hc3⟩
        have O3 := HO2.out.still hc3
        obtain ⟨G2, HS2, -⟩ := wdHost O3.here 2 (by omega)
        have hr2 := runs_any w3 b 6 _ G2 ⟨#[112]⟩ HS2
        have HR2 := Lib.hid hr2
        have HO3 := Lib.hid O3
        clear hc3 O3 HS2 hr2 HR0 HO2
        go_wp2_with fail
        refine HR2.out.mono ?_
        rintro e w4 ⟨rfl, hc4⟩
        have O4 := HO3.out.still hc4
        obtain ⟨G3, HS3, -⟩ := wdHost O4.here 2 (by omega)
        have hl3 := letter_any w4 b 6 _ G3 ⟨#[112]⟩ HS3
        have HL3 := Lib.hid hl3
        have HO4 := Lib.hid O4
        clear hc4 O4 HS3 hl3 HR2 HO3
        rcases HFIN.out with ⟨f1, f2⟩ | ⟨f1, f2, f3⟩
        · rw [f1, f2]
          clear f1 f2 HFIN
          go_wp2_with fail
          refine HL3.out.mono ?_
          rintro e w5 ⟨rfl, hc5⟩
          have HC5 := Lib.hid (HO4.out.still hc5).chg
          clear hc5 HL3 HO4
          go_wp2_with fail
          go_ret
          exact ⟨rfl, HC5.out.below (Nat.le_refl _) (fun _ h => h.elim)⟩
        · rw [f3] at HL3
          rw [f1, f2]
          clear f1 f2 f3 HFIN
          go_wp2_with fail
          refine HL3.out.mono ?_
          rintro e w5 ⟨rfl, hc5⟩
          have HC5 := Lib.hid (HO4.out.still hc5).chg
          clear hc5 HL3 HO4
          go_wp2_with fail
          go_ret
          exact ⟨by simp, HC5.out.below (Nat.le_refl _) (fun _ h => h.elim)⟩
set_option maxRecDepth 100000 in
theorem migrateBack_lifted (os : Os) (started : os.Started) (H : Type) (enc : TypeId × Value → H) :
    ReturnsInHanded {} Try.checked os 8 .any (Rows.migrateBackSpec.pre6 enc Try.prog Try.f8 [] false) (Rows.migrateBackSpec.post enc Try.prog Try.f8 false true false false) := by
  refine law_lift (C := Try.checked) (tb := 4) started Try.own Try.laidOut (by kernel_rfl) Try.func8 (by kernel_rfl) rfl Try.underlying4 rfl ?_
    (ChangeSpec.witness6 (enc := enc) (C := Try.checked) false ⟨#[], #[.int .u16 0, .slice none 0 0], []⟩ 8 (by kernel_rfl) (by kernel_rfl) (by kernel_rfl) (by kernel_rfl)) ?_
  · intro ds h
    match ds, h with
    | [_, _], _ => rfl
  · intro W base vs ds ps hval hA hsz
    have hp : Try.f8.params.toList = [51, 70] := by rw [Try.params8]
    rw [hp] at hval hA hsz
    obtain ⟨v0, vs0, d0, ds0, p0, q0, rfl, rfl, rfl, h0, r0⟩ := trodAll_cons hA
    obtain ⟨v1, vs1, d1, ds1, p1, q1, rfl, rfl, rfl, h1, r1⟩ := trodAll_cons r0
    obtain ⟨rfl, rfl, rfl⟩ := trodAll_nil r1
    obtain ⟨a0, rfl, rfl, rfl, w0⟩ := open_int Try.underlying51 (hval 0 51 v0 rfl rfl) h0
    obtain ⟨a1, rfl, w1⟩ := arg_bytes (hval 1 70 v1 rfl rfl) h1
    exact migrateBack_walk a0 a1.1 a1.2 W (by simpa [Lit.wf] using w0) w1.1 w1.2

theorem migrateBack_holds : Rows.MigrateBackSaid :=
  OpenClaim.holds_of_wide 8 Try.f8 rfl rfl rfl rfl rfl rfl rfl ⟨rfl, rfl, rfl, rfl, rfl⟩ rfl rfl rfl rfl rfl (by kernel_rfl) Try.func8 (by kernel_rfl)
    (of_decide_eq_true (by kernel_rfl)) (by unfold Func.isWrapper; first | (rw [if_pos (by decide +kernel)]; kernel_rfl) | (rw [if_neg (by decide +kernel)]; exact ⟨rfl, rfl⟩))
    (fun os started H enc _ => migrateBack_lifted os started H enc)
#print axioms migrateBack_holds
end Go.Proofs.Ytkoopagjjmdodaa
