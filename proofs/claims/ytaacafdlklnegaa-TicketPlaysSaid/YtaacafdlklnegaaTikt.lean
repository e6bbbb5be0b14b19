/-
  Encode: the bytes of a state.
-/
import Derived.Test.YtaacafdlklnegaaTiks
namespace Go.Proofs.Ytaacafdlklnegaa
open Go.RowKit
set_option linter.unusedVariables false

theorem take_flat {α : Type} (f : α → List UInt8) (l : List α) (k : Nat) (h : k < l.length) : (l.take (k + 1)).flatMap f = (l.take k).flatMap f ++ f l[k] ∧ ((l.take k).flatMap f).length + (f l[k]).length ≤ (l.flatMap f).length := by
  have h1 : (l.take (k + 1)).flatMap f = (l.take k).flatMap f ++ f l[k] := by rw [List.take_succ_eq_append_getElem h, List.flatMap_append]; simp
  refine ⟨h1, ?_⟩
  have h2 := congrArg List.length h1
  rw [List.length_append] at h2
  rw [← h2]
  conv => rhs; rw [← List.take_append_drop (k + 1) l, List.flatMap_append, List.length_append]
  omega
/-- A state of a size that is written. -/
structure EncOk (s : State) : Prop where
  os : ∀ x ∈ s.owners, I64 x.epoch
  es : ∀ x ∈ s.entries, EncE x
  len : (encS s).length ≤ 140737488355328
theorem pagesOk (s : State) (h : (encS s).length ≤ 140737488355328) : PagesOk s := by
  have hb : ∀ t : ByteArray, t.size ≤ (bytesOf t).length := fun t => by
    have h2 : t.data.toList.length = t.size := by simp
    unfold bytesOf; rw [List.length_append]; omega
  unfold encS at h
  simp only [List.length_append] at h
  refine ⟨fun x hx => ?_, fun x hx => ?_⟩
  · obtain ⟨k, hk, rfl⟩ := List.getElem_of_mem hx
    have h1 := (take_flat encO s.owners k hk).2
    have h3 : (encO s.owners[k]).length = (bytesOf s.owners[k].page).length + (encI s.owners[k].epoch).length := by unfold encO; rw [List.length_append]
    have := hb s.owners[k].page
    omega
  · obtain ⟨k, hk, rfl⟩ := List.getElem_of_mem hx
    have h1 := (take_flat encE s.entries k hk).2
    have h3 : (bytesOf s.entries[k].page).length ≤ (encE s.entries[k]).length := by unfold encE; simp only [List.length_append]; omega
    have := hb s.entries[k].page
    omega

set_option maxHeartbeats 1600000 in
set_option maxRecDepth 100000 in
theorem encode_no (w : World) (v0 v1 v2 : Value) (s : State) (F : List Nat) (H : stateR.own w [v0, v1, v2] s F) (hF : F.Nodup) (hz : PagesOk s) (hn : ¬ AllOk s) :
    Calls Try.prog 25 #[.agg #[v0, v1, v2]] w fun e w' => e = .returned (.tuple #[.string ⟨#[]⟩, .int .i64 3]) ∧ Chg (fun _ => False) w w' := by
  have HN := Lib.hid hn
  have HF := Lib.hid hF
  have HZ := Lib.hid hz
  have HH := Lib.hid H
  obtain ⟨_, _, _, F0, F1, F2, hv, r0, r1, r2, -⟩ := H
  cases hv
  obtain ⟨xs0, Fs0, op0⟩ := Rep.opened r0
  obtain ⟨xs1, Fs1, op1⟩ := Rep.opened r1
  have hsent := seen_strs r2
  obtain ⟨p0, e0, rfl, -, -⟩ := op0.val
  obtain ⟨p1, e1, rfl, -, -⟩ := op1.val
  obtain ⟨p2, e2, rfl, -, -⟩ := hsent
  rw [List.length_map] at *
  clear hn hF hz r0 r1 r2 op0 op1
  go_enter Try.func25, Try.ntmps25
  go_wp2_with fail
  refine (formed_any _ _ _ _ s F (stateR.chg HH.out (Chg.alloc (fun _ => False) w _) (fun _ _ x => x)) HF.out HZ.out).mono ?_
  rintro e w1 ⟨β, rfl, hβ, hc1⟩
  have hb : β = false := by
    cases β with
    | false => rfl
    | true => exact absurd (hβ.1 rfl) HN.out
  subst hb
  clear hβ
  go_wp2_with fail
  go_ret2
  exact ⟨rfl, (Chg.alloc (fun _ => False) w _).trans' hc1⟩

set_option maxHeartbeats 1600000 in
set_option maxRecDepth 100000 in
theorem encode_yes (w : World) (v0 v1 v2 : Value) (s : State) (F : List Nat) (H : stateR.own w [v0, v1, v2] s F) (hF : F.Nodup) (hz : EncOk s) (hn : AllOk s) :
    Calls Try.prog 25 #[.agg #[v0, v1, v2]] w fun e w' => e = .returned (.tuple #[.string ⟨(encS s).toArray⟩, .int .i64 0]) ∧ Chg (fun _ => False) w w' := by
  have HN := Lib.hid hn
  have HF := Lib.hid hF
  have HZ := Lib.hid hz
  have HP := Lib.hid (pagesOk s hz.len)
  have HH := Lib.hid H
  have HLEN : Hid ((Kn.enc s.owners.length).length + (s.owners.flatMap encO).length + (Kn.enc s.entries.length).length + (s.entries.flatMap encE).length ≤ 140737488355328) := Lib.hid (by
    have := hz.len
    unfold encS at this
    simp only [List.length_append] at this
    exact this)
  have HES : Hid (Kn.enc s.owners.length ++ s.owners.flatMap encO ++ Kn.enc s.entries.length ++ s.entries.flatMap encE = encS s) := Lib.hid rfl
  generalize encS s = ES at *
  obtain ⟨_, _, _, F0, F1, F2, hv, r0, r1, r2, -⟩ := H
  cases hv
  obtain ⟨xs0, Fs0, op0⟩ := Rep.opened r0
  obtain ⟨xs1, Fs1, op1⟩ := Rep.opened r1
  have hsent := seen_strs r2
  obtain ⟨p0, e0, rfl, l0, m0⟩ := op0.val
  obtain ⟨p1, e1, rfl, l1, m1⟩ := op1.val
  obtain ⟨p2, e2, rfl, -, -⟩ := hsent
  rw [List.length_map] at *
  have L0 : (s.owners.length : Int) ≤ 9223372036854775807 := by unfold maxLen at m0; omega
  have L1 : (s.entries.length : Int) ≤ 9223372036854775807 := by unfold maxLen at m1; omega
  have M0 : Hid (s.owners.length ≤ 9223372036854775807) := Lib.hid (by unfold maxLen at m0; omega)
  have M1 : Hid (s.entries.length ≤ 9223372036854775807) := Lib.hid (by unfold maxLen at m1; omega)
  clear hn hF hz r0 r1 r2 l0 m0 l1 m1
  go_enter Try.func25, Try.ntmps25
  go_wp2_with fail
  refine (formed_any _ _ _ _ s F (stateR.chg HH.out (Chg.alloc (fun _ => False) w _) (fun _ _ x => x)) HF.out HP.out).mono ?_
  rintro e w1 ⟨β, rfl, hβ, hc1⟩
  obtain rfl : β = true := hβ.2 HN.out
  clear hβ
  have hcA := (Chg.alloc (fun _ => False) w _).trans' hc1
  have hbox := hc1.keep (alloc_block w _) (fun x => x)
  have f0 : w1.cell? ⟨w.heap.size, 0, none⟩ = _ := cell_of_block (i := 0) hbox rfl
  have f1 : w1.cell? ⟨w.heap.size, 1, none⟩ = _ := cell_of_block (i := 1) hbox rfl
  have op0' := op0.still hcA
  have op1' := op1.still hcA
  have H0 := OwnW.new w1
  clear hbox op0 op1 hc1
  generalize hn : w.heap.size = n at *
  have HNN := Lib.hid hn
  clear hn
  have F0' := Lib.hid f0
  have F1' := Lib.hid f1
  have g0 := H0.chg.cell f0
  clear f0 f1
  go_wp2_with fail
  refine (H0.cnt s.owners.length M0.out (by have := HLEN.out; simp only [List.length_nil]; omega)).mono ?_
  rintro e w2 ⟨rfl, v2', H2⟩
  clear H0 g0
  have g0 := H2.chg.cell F0'.out
  go_wp2_with fail
  generalize hnb : w1.heap.size = b at *
  have HNB := Lib.hid hnb
  clear hnb
  go_loopw [20] (fun i wr => ∃ (k : Nat) (vr : Value), k ≤ s.owners.length ∧ i = .int .i64 k ∧ OwnW w1 wr b vr (Kn.enc s.owners.length ++ (s.owners.take k).flatMap encO)) (fun i _ => s.owners.length - (intOf i).toNat)
  case atStart => exact ⟨0, v2', Nat.zero_le _, rfl, by simpa using H2⟩
  case round =>
    obtain ⟨k, vr, hk, rfl, HR⟩ := hrel
    clear H2 g0
    by_cases hlt : k < s.owners.length
    · obtain ⟨g, off, cap', hv', _, _, _, _, hat⟩ := (op0'.still HR.chg).at (by omega)
      simp only [Value.slice.injEq] at hv'
      obtain ⟨rfl, _, rfl⟩ := hv'
      obtain ⟨x, G, ⟨rfl, _⟩, _, hcells⟩ := hat k hlt
      have c0 : wr.cell? ⟨g, off + k * 2 + 0, none⟩ = some (.string s.owners[k].page) := hcells 0 _ rfl
      have c1 : wr.cell? ⟨g, off + k * 2 + 1, none⟩ = some (.int .i64 s.owners[k].epoch) := hcells 1 _ rfl
      rw [Nat.add_zero] at c0
      have HEP := Lib.hid (HZ.out.os _ (List.getElem_mem hlt))
      have HTK := Lib.hid (take_flat encO s.owners k hlt)
      have h0' : (0 : Int) ≤ (k : Int) := Int.natCast_nonneg _
      have h3 : (k : Int) < (s.owners.length : Int) := by omega
      clear hcells hat
      generalize s.owners[k] = x at *
      have HW := WB.mk' HR #[.string x.page, .int .i64 x.epoch] 67
      have d0 := HW.cell 0 rfl
      go_upto_region 8 with fail
      clear c0 c1
      generalize wr.heap.size = nb at *
      generalize wr.alloc (.cells #[.string x.page, .int .i64 x.epoch] 67) = w3 at *
      go_wp2_with fail
      refine (HW.str x.page (by have := HLEN.out; have := HTK.out.2; have e1 : (encO x).length = (bytesOf x.page).length + (encI x.epoch).length := by unfold encO; rw [List.length_append]
                                simp only [List.length_append]; omega)).mono ?_
      rintro e w4 ⟨rfl, v4, H4⟩
      clear HW d0 HR
      have d1 := H4.cell 1 rfl
      go_wp2_with fail
      refine (H4.num x.epoch HEP.out (by have := HLEN.out; have := HTK.out.2; have e1 : (encO x).length = (bytesOf x.page).length + (encI x.epoch).length := by unfold encO; rw [List.length_append]
                                         simp only [List.length_append]; omega)).mono ?_
      rintro e w5 ⟨rfl, v5, H5⟩
      have H6 := H5.own
      rw [List.append_assoc (Kn.enc s.owners.length ++ _), ← encO, List.append_assoc, ← HTK.out.1] at H6
      clear H4 H5 d1
      go_wp2_with fail
      go_roundw
      case rel => exact ⟨k + 1, v5, by omega, by go_num, H6⟩
      case measure => simp [intOf]; omega
    · obtain rfl : k = s.owners.length := by omega
      rw [List.take_length] at HR
      have g1 := HR.chg.cell F1'.out
      go_wp2_with fail
      refine (HR.cnt s.entries.length M1.out (by have := HLEN.out; simp only [List.length_append]; omega)).mono ?_
      rintro e w3 ⟨rfl, v3, H3⟩
      clear HR g1
      have g1 := H3.chg.cell F1'.out
      go_wp2_with fail
      go_loopw [41] (fun i wr' => ∃ (k : Nat) (vr : Value), k ≤ s.entries.length ∧ i = .int .i64 k ∧ OwnW w1 wr' b vr (Kn.enc s.owners.length ++ s.owners.flatMap encO ++ Kn.enc s.entries.length ++ (s.entries.take k).flatMap encE)) (fun i _ => s.entries.length - (intOf i).toNat)
      case atStart => exact ⟨0, v3, Nat.zero_le _, rfl, by simpa using H3⟩
      case round =>
        obtain ⟨k, vr, hk, rfl, HR⟩ := hrel
        clear H3 g1
        by_cases hlt : k < s.entries.length
        · obtain ⟨g, off, cap', hv', _, _, _, _, hat⟩ := (op1'.still HR.chg).at (by omega)
          simp only [Value.slice.injEq] at hv'
          obtain ⟨rfl, _, rfl⟩ := hv'
          obtain ⟨x, G, ⟨vp, Fp, rfl, _, _⟩, _, hcells⟩ := hat k hlt
          obtain ⟨_, _, _, hv9, _, _, _, _, hat1⟩ := op1'.at (by omega)
          simp only [Value.slice.injEq, Option.some.injEq, Addr.mk.injEq, and_true] at hv9
          obtain ⟨⟨rfl, rfl⟩, _, rfl⟩ := hv9
          obtain ⟨x1, G1, ⟨vp1, Fp1, rfl, hpp1, _⟩, _, hcells1⟩ := hat1 k hlt
          have hvp : vp1 = vp := by
            have h1 := HR.chg.cell (hcells1 3 vp1 rfl)
            have h2 := hcells 3 vp rfl
            rw [h1] at h2
            exact Option.some.inj h2
          subst hvp
          have HPP := Lib.hid hpp1
          obtain ⟨ys, Ys, hpo⟩ := Rep.opened hpp1
          obtain ⟨pa, pc, rfl, _, _⟩ := hpo.val
          have c0 : wr.cell? ⟨g, off + k * 7 + 0, none⟩ = some (.string s.entries[k].page) := hcells 0 _ rfl
          have c1 : wr.cell? ⟨g, off + k * 7 + 1, none⟩ = some (.int .i64 s.entries[k].number) := hcells 1 _ rfl
          have c2 : wr.cell? ⟨g, off + k * 7 + 2, none⟩ = some (.string s.entries[k].request) := hcells 2 _ rfl
          have c3 : wr.cell? ⟨g, off + k * 7 + 3, none⟩ = some (.slice pa s.entries[k].pieces.length pc) := hcells 3 _ rfl
          have c4 : wr.cell? ⟨g, off + k * 7 + 4, none⟩ = some (.int .i64 s.entries[k].acked) := hcells 4 _ rfl
          have c5 : wr.cell? ⟨g, off + k * 7 + 5, none⟩ = some (.bool s.entries[k].ended) := hcells 5 _ rfl
          have c6 : wr.cell? ⟨g, off + k * 7 + 6, none⟩ = some (.bool s.entries[k].closed) := hcells 6 _ rfl
          rw [Nat.add_zero] at c0
          have HEE := Lib.hid (HZ.out.es _ (List.getElem_mem hlt))
          have HTK := Lib.hid (take_flat encE s.entries k hlt)
          have h0' : (0 : Int) ≤ (k : Int) := Int.natCast_nonneg _
          have h3 : (k : Int) < (s.entries.length : Int) := by omega
          clear hcells hat hcells1 hat1 hpp1 hpo
          generalize s.entries[k] = x at *
          have H4 := HR.keep (Chg.alloc (fun _ => False) wr (.cells #[.string x.page, .int .i64 x.number, .string x.request, .slice pa x.pieces.length pc, .int .i64 x.acked, .bool x.ended, .bool x.closed] 69))
          go_wp2_with fail
          refine (encEntry_any w1 _ b vr _ x _ Fp1 HPP.out H4 HEE.out (by have := HLEN.out; have := HTK.out.2; simp only [List.length_append]; omega)).mono ?_
          rintro e w5 ⟨rfl, v5, H5⟩
          rw [List.append_assoc _ _ (encE x), ← HTK.out.1] at H5
          clear H4 HR c0 c1 c2 c3 c4 c5 c6
          go_wp2_with fail
          go_roundw
          case rel => exact ⟨k + 1, v5, by omega, by go_num, H5⟩
          case measure => simp [intOf]; omega
        · obtain rfl : k = s.entries.length := by omega
          rw [List.take_length, HES.out] at HR
          have hbx : wr.cell? ⟨b, 0, none⟩ = some vr := cell_of_block HR.wr.box rfl
          obtain ⟨pa, pc, rfl, -, -⟩ := HR.wr.row.slice
          have hcv := HR.conv0
          have HR2 := Lib.hid HR
          clear HR
          go_wp2_with fail
          go_ret2
          exact ⟨rfl, hcA.trans' HR2.out.chg⟩
end Go.Proofs.Ytaacafdlklnegaa
