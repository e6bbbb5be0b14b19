/-
  TicketDecodes: any bytes are refused, or are those of the well-formed state that they make; for all bytes.
-/
import Derived.Test.YtaacafdlklnegaaTilb
import Derived.Deep.CutBlock
namespace Go.Proofs.Ytaacafdlklnegaa
set_option linter.unusedVariables false
open Go.ChangeShapes Go.WideShapes Go.ChangeAt Go.RowKit
open Go.ChangeMaps (open_string shut_string)

theorem toList_cons {s : ByteArray} (h : 1 ≤ s.size) : ¬ s.toList = [] ∧ s.toList.isEmpty = false := by
  rw [ByteArray.toList_eq]
  have h2 : s.data.toList.length = s.size := by simp
  cases hl : s.data.toList with
  | nil => rw [hl, List.length_nil] at h2; omega
  | cons _ _ => simp
theorem AllOk.neO {s : State} (h : AllOk s) {i k : Nat} (hi : i < s.owners.length) (hk : k < i) : ¬ s.owners[i].page = s.owners[k].page := fun e => by
  have h1 := (h.os i hi).2.2
  have h2 := (h.os k (by omega)).2.2
  rw [e, h2] at h1
  have := Option.some.inj h1
  omega
theorem AllOk.neE {s : State} (h : AllOk s) {i k : Nat} (hi : i < s.entries.length) (hk : k < i) : ¬ (s.entries[k].page = s.entries[i].page ∧ s.entries[k].number = s.entries[i].number) := fun ⟨e1, e2⟩ => by
  have h1 := (h.es i hi).2.2.2.2.2
  have h2 := (h.es k (by omega)).2.2.2.2.2
  rw [e1, e2, h1] at h2
  have := Option.some.inj h2
  omega
theorem beq_bytes_false {a b : ByteArray} (h : ¬ a = b) : (a.toList == b.toList) = false := by
  rw [Bool.eq_false_iff]; exact fun e => h (bytesEq.1 e)

set_option maxHeartbeats 800000 in
set_option maxRecDepth 100000 in
theorem ticketDecodes_long (s : ByteArray) (w : World) (hs : s.size ≤ maxLen) (hl : 600 < s.size) :
    Calls Try.prog 9 #[.string s] w fun e w' => e = .returned (.bool true) ∧ Below w.heap.size w w' := by
  have hd : decide ((600 : Int) < (s.size : Int)) = true := by simp; omega
  have hln : (s.size : Int) ≤ 9223372036854775807 := by unfold maxLen at hs; omega
  clear hs hl
  go_enter Try.func9, Try.ntmps9
  go_wp2_with fail
  refine (awake_any w).mono ?_
  rintro e w1 ⟨rfl, hc1⟩
  go_wp2_with fail
  refine (awake_any w1).mono ?_
  rintro e w2 ⟨rfl, hc2⟩
  go_wp2_with fail
  go_ret
  exact ⟨rfl, (hc1.trans' hc2).below (Nat.le_refl _) (fun _ h => h.elim)⟩

set_option maxHeartbeats 6400000 in
set_option maxRecDepth 100000 in
theorem ticketDecodes_ok (s : ByteArray) (w : World) (hl : ¬ 600 < s.size) :
    Calls Try.prog 9 #[.string s] w fun e w' => e = .returned (.bool true) ∧ Below w.heap.size w w' := by
  have hd : decide ((600 : Int) < (s.size : Int)) = false := by simp; omega
  have hln : (s.size : Int) ≤ 9223372036854775807 := by omega
  have HS : Hid (s.size ≤ 1000000) := Lib.hid (by omega)
  clear hl
  go_enter Try.func9, Try.ntmps9
  go_wp2_with fail
  refine (awake_any w).mono ?_
  rintro e w1 ⟨rfl, hc1⟩
  go_wp2_with fail
  refine (decode_any s w1 HS.out).mono ?_
  rintro e w2 ⟨st, er, v0, v1, v2, F, rfl, hown, hnd, hlo, hc2, hor⟩
  have hcw := hc1.trans' hc2
  have HH := Here.made (A := stateR) w2 27 _ st F hown hnd
  have hbox := alloc_block w2 (.cells #[v0, v1, v2] 27)
  have hcA := hcw.allocR (.cells #[v0, v1, v2] 27)
  obtain ⟨_, _, _, F0, F1, F2, hv, q0, q1, q2, -⟩ := hown
  cases hv
  obtain ⟨xs0, Fs0, op0⟩ := Rep.opened q0
  obtain ⟨xs1, Fs1, op1⟩ := Rep.opened q1
  have hsent := seen_strs q2
  obtain ⟨p0, k0, rfl, l0, m0⟩ := op0.val
  obtain ⟨p1, k1, rfl, l1, m1⟩ := op1.val
  have HSE := Lib.hid hsent
  obtain ⟨p2, k2, rfl, l2, m2, -⟩ := hsent
  rw [List.length_map] at *
  have L0 : (st.owners.length : Int) ≤ 9223372036854775807 := by unfold maxLen at m0; omega
  have L1 : (st.entries.length : Int) ≤ 9223372036854775807 := by unfold maxLen at m1; omega
  have b0 : (w2.alloc (.cells #[.slice p0 st.owners.length k0, .slice p1 st.entries.length k1, .slice p2 st.sent.length k2] 27)).cell? ⟨w2.heap.size, 0, none⟩ = _ := cell_of_block (i := 0) hbox rfl
  have b1 : (w2.alloc (.cells #[.slice p0 st.owners.length k0, .slice p1 st.entries.length k1, .slice p2 st.sent.length k2] 27)).cell? ⟨w2.heap.size, 1, none⟩ = _ := cell_of_block (i := 1) hbox rfl
  have b2 : (w2.alloc (.cells #[.slice p0 st.owners.length k0, .slice p1 st.entries.length k1, .slice p2 st.sent.length k2] 27)).cell? ⟨w2.heap.size, 2, none⟩ = _ := cell_of_block (i := 2) hbox rfl
  have op0' := op0.still (Chg.alloc (fun _ => False) w2 (.cells #[.slice p0 st.owners.length k0, .slice p1 st.entries.length k1, .slice p2 st.sent.length k2] 27))
  have op1' := op1.still (Chg.alloc (fun _ => False) w2 (.cells #[.slice p0 st.owners.length k0, .slice p1 st.entries.length k1, .slice p2 st.sent.length k2] 27))
  have HSE2 := Lib.hid (HSE.out.still (Chg.alloc (fun _ => False) w2 (.cells #[.slice p0 st.owners.length k0, .slice p1 st.entries.length k1, .slice p2 st.sent.length k2] 27)))
  clear hbox op0 op1 HSE q0 q1 q2 l0 m0 l1 m1 l2 m2 hc1 hc2 hcw hnd hlo
  rcases hor with ⟨hg, hst, rfl⟩ | ⟨-, hst, rfl⟩
  · as_aux_lemma =>
      have hback := decS_back s hg HS.out
      rw [← hst] at hback
      have hok : AllOk st := by rw [hst]; exact hg.ok
      have hsl : st.sent.length = st.entries.length := hok.len
      rw [hsl] at b2 HSE2
      have HEQ : Hid ((⟨(encS st).toArray⟩ : ByteArray) = s) := Lib.hid (by rw [hback.1])
      have HOK := Lib.hid hok
      have HEN := Lib.hid hback.2
      clear hback hok hst hg
      rw [hsl] at hcA op0' op1' HH b0 b1 ⊢
      have HSE3 := HSE2
      clear hsl
      go_upto_region 4 with fail
      generalize w2.heap.size = nb at *
      generalize w2.alloc (.cells #[.slice p0 st.owners.length k0, .slice p1 st.entries.length k1, .slice p2 st.entries.length k2] 27) = w3 at *
      have HC := Lib.hid hcA
      have HHH := Lib.hid HH
      clear HH hcA
      go_wp2_with fail
      go_loopw [5] (fun u5 wr => ∃ i : Nat, i ≤ st.owners.length ∧ u5 = .int .i64 i ∧ Chg (fun _ => False) w3 wr) (fun u5 _ => st.owners.length - (intOf u5).toNat)
      case atStart => exact ⟨0, Nat.zero_le _, rfl, .refl _ _⟩
      case round =>
        obtain ⟨i, hi, rfl, hch⟩ := hrel
        have d0 := hch.cell b0
        by_cases hlt : i < st.owners.length
        · obtain ⟨g, off, cap', hv', _, _, _, _, hat⟩ := (op0'.still hch).at (by omega)
          simp only [Value.slice.injEq] at hv'
          obtain ⟨rfl, _, rfl⟩ := hv'
          obtain ⟨x, G, ⟨rfl, _⟩, _, hcells⟩ := hat i hlt
          have c0 : wr.cell? ⟨g, off + i * 2 + 0, none⟩ = some (.string st.owners[i].page) := hcells 0 _ rfl
          have c1 : wr.cell? ⟨g, off + i * 2 + 1, none⟩ = some (.int .i64 st.owners[i].epoch) := hcells 1 _ rfl
          rw [Nat.add_zero] at c0
          obtain ⟨hn1, hn2, -⟩ := HOK.out.os i hlt
          have a1 : decide (st.owners[i].epoch < 1) = false := by simp; omega
          obtain ⟨a2, a3⟩ := toList_cons hn1.1
          have a4 : (st.owners[i].page.toList == []) = false := by rw [Bool.eq_false_iff]; simpa using a2
          have a5 : decide ((200 : Int) < (st.owners[i].page.size : Int)) = false := by simp; omega
          have a6 : (st.owners[i].page.size : Int) ≤ 9223372036854775807 := by omega
          have HNE : Hid (∀ (k : Nat) (hk : k < i), ¬ st.owners[i].page = st.owners[k].page) := Lib.hid (fun k hk => HOK.out.neO hlt hk)
          have h0' : (0 : Int) ≤ (i : Int) := Int.natCast_nonneg _
          have h3 : (i : Int) < (st.owners.length : Int) := by omega
          have HLT := Lib.hid hlt
          clear hn1 hn2 hcells hat
          go_wp2_with fail
          have wi : IntKind.i64.wrap ((i : Int) + 1) = (i : Int) + 1 := IntWalk.i64_in _ (by omega)
          clear a1 a2 a3 a4 a5 a6 c1 c0 d0
          go_loopw [6] (fun u6 wq => ∃ k : Nat, k ≤ i ∧ u6 = .int .i64 k ∧ Chg (fun _ => False) w3 wq) (fun u6 _ => i - (intOf u6).toNat)
          case atStart => exact ⟨0, Nat.zero_le _, rfl, hch⟩
          case round =>
            clear hch
            obtain ⟨k, hk, rfl, hch⟩ := hrel
            by_cases hki : k < i
            · have d0 := hch.cell b0
              obtain ⟨_, _, _, hv9, _, _, _, _, hat⟩ := (op0'.still hch).at (by have := HLT.out; omega)
              simp only [Value.slice.injEq, Option.some.injEq, Addr.mk.injEq, and_true] at hv9
              obtain ⟨⟨rfl, rfl⟩, _, rfl⟩ := hv9
              obtain ⟨_, _, ⟨rfl, _⟩, _, hcells1⟩ := hat i HLT.out
              obtain ⟨_, _, ⟨rfl, _⟩, _, hcells2⟩ := hat k (by have := HLT.out; omega)
              have c0 : wr.cell? ⟨g, off + i * 2 + 0, none⟩ = some (.string st.owners[i].page) := hcells1 0 _ rfl
              have c1 : wr.cell? ⟨g, off + k * 2 + 0, none⟩ = some (.string st.owners[k].page) := hcells2 0 _ rfl
              rw [Nat.add_zero] at c0 c1
              have hq : (st.owners[i].page.toList == st.owners[k].page.toList) = false := beq_bytes_false (HNE.out k hki)
              have x0 : (0 : Int) ≤ (k : Int) := Int.natCast_nonneg _
              have x1 : (k : Int) < (st.owners.length : Int) := by omega
              have x2 : (k : Int) < (i : Int) := by omega
              have wk : IntKind.i64.wrap ((k : Int) + 1) = (k : Int) + 1 := IntWalk.i64_in _ (by omega)
              clear hcells1 hcells2 hat
              generalize st.owners[i].page = pi at *
              generalize st.owners[k].page = pk at *
              go_wp2_with fail
              go_quiet (fail)
              go_wp2_with fail
              go_roundw
              case rel => exact ⟨k + 1, by omega, by go_num, hch.drewNR _⟩
              case measure => simp [intOf]; omega
            · obtain rfl : k = i := by omega
              go_wp2_with fail
              go_roundw
              case rel => exact ⟨k + 1, HLT.out, by go_num, hch⟩
              case measure => have := HLT.out; simp [intOf]; omega
        · obtain rfl : i = st.owners.length := by omega
          have d1 := hch.cell b1
          have d2 := hch.cell b2
          go_wp2_with fail
          clear d1 d2
          go_loopw [7] (fun u7 wr' => ∃ i : Nat, i ≤ st.entries.length ∧ u7 = .int .i64 i ∧ Chg (fun _ => False) w3 wr') (fun u7 _ => st.entries.length - (intOf u7).toNat)
          case atStart => exact ⟨0, Nat.zero_le _, rfl, hch⟩
          case round =>
            clear hch d0 hlt hi
            obtain ⟨i, hi, rfl, hch⟩ := hrel
            have d0 := hch.cell b0
            have d1 := hch.cell b1
            have d2 := hch.cell b2
            by_cases hlt : i < st.entries.length
            · obtain ⟨g, off, cap', hv', _, _, _, _, hat⟩ := (op1'.still hch).at (by omega)
              simp only [Value.slice.injEq] at hv'
              obtain ⟨rfl, _, rfl⟩ := hv'
              obtain ⟨x, G, ⟨vp, Fp, rfl, hpp, _⟩, _, hcells⟩ := hat i hlt
              obtain ⟨ys, Ys, hpo⟩ := Rep.opened hpp
              obtain ⟨pa, pc, rfl, lp, mp⟩ := hpo.val
              have lp2 : (st.entries[i].pieces.length : Int) ≤ 9223372036854775807 := by unfold maxLen at mp; omega
              have c0 : wr.cell? ⟨g, off + i * 7 + 0, none⟩ = some (.string st.entries[i].page) := hcells 0 _ rfl
              have c1 : wr.cell? ⟨g, off + i * 7 + 1, none⟩ = some (.int .i64 st.entries[i].number) := hcells 1 _ rfl
              have c2 : wr.cell? ⟨g, off + i * 7 + 2, none⟩ = some (.string st.entries[i].request) := hcells 2 _ rfl
              have c3 : wr.cell? ⟨g, off + i * 7 + 3, none⟩ = some (.slice pa st.entries[i].pieces.length pc) := hcells 3 _ rfl
              have c4 : wr.cell? ⟨g, off + i * 7 + 4, none⟩ = some (.int .i64 st.entries[i].acked) := hcells 4 _ rfl
              have c5 : wr.cell? ⟨g, off + i * 7 + 5, none⟩ = some (.bool st.entries[i].ended) := hcells 5 _ rfl
              have c6 : wr.cell? ⟨g, off + i * 7 + 6, none⟩ = some (.bool st.entries[i].closed) := hcells 6 _ rfl
              rw [Nat.add_zero] at c0
              obtain ⟨-, n2, n3, n4, n5, -⟩ := HOK.out.es i hlt
              have hlt2 : i < st.sent.length := by rw [HOK.out.len]; exact hlt
              obtain ⟨g2, off2, rfl, cs⟩ := HSE2.out.ptr hch (k := i) (u := .string st.entries[i].request) (by rw [List.getElem?_map, n5]; rfl)
              have HNE : Hid (∀ (k : Nat) (hk : k < i), ¬ (st.entries[k].page = st.entries[i].page ∧ st.entries[k].number = st.entries[i].number)) := Lib.hid (fun k hk => HOK.out.neE hlt hk)
              have h0' : (0 : Int) ≤ (i : Int) := Int.natCast_nonneg _
              have h3 : (i : Int) < (st.entries.length : Int) := by omega
              have HLT := Lib.hid hlt
              have wi : IntKind.i64.wrap ((i : Int) + 1) = (i : Int) + 1 := IntWalk.i64_in _ (by omega)
              clear hcells hat hpp hpo lp mp n5 hlt2
              generalize st.entries[i] = x at *
              obtain ⟨xp, xn, xr, xl, xa, xe, xc⟩ := x
              dsimp only at c0 c1 c2 c3 c4 c5 c6 HNE lp2 n2 n3 n4 cs
              have a1 : decide (xn < 1) = false := by simp; omega
              have a2 : decide (xa < 0) = false := by simp; omega
              have hx : xc = false ∨ xl.length = 0 := by
                cases xc with
                | false => exact .inl rfl
                | true => rw [n4 rfl]; exact .inr rfl
              clear n2 n3 n4
              go_upto_region 22 with fail
              have hgq := alloc_block wr (.cells #[.string xp, .int .i64 xn, .string xr, .slice pa xl.length pc, .int .i64 xa, .bool xe, .bool xc] 69)
              have hcq := Chg.alloc (fun _ => False) wr (.cells #[.string xp, .int .i64 xn, .string xr, .slice pa xl.length pc, .int .i64 xa, .bool xe, .bool xc] 69)
              generalize hnq : wr.heap.size = nq0 at *
              have HNQ := Lib.hid hnq
              clear hnq
              generalize wr.alloc (.cells #[.string xp, .int .i64 xn, .string xr, .slice pa xl.length pc, .int .i64 xa, .bool xe, .bool xc] 69) = wq at *
              have HC2 := hch.trans' hcq
              have y0 : wq.cell? ⟨nq0, 0, none⟩ = some (.string xp) := cell_of_block (i := 0) hgq rfl
              have y1 : wq.cell? ⟨nq0, 1, none⟩ = some (.int .i64 xn) := cell_of_block (i := 1) hgq rfl
              have y2 : wq.cell? ⟨nq0, 2, none⟩ = some (.string xr) := cell_of_block (i := 2) hgq rfl
              have y3 : wq.cell? ⟨nq0, 3, none⟩ = some (.slice pa xl.length pc) := cell_of_block (i := 3) hgq rfl
              have y4 : wq.cell? ⟨nq0, 4, none⟩ = some (.int .i64 xa) := cell_of_block (i := 4) hgq rfl
              have y6 : wq.cell? ⟨nq0, 6, none⟩ = some (.bool xc) := cell_of_block (i := 6) hgq rfl
              have y7 := hcq.cell d2
              have y8 := hcq.cell cs
              have HGQ := Lib.hid hgq
              go_cut [144] (fun u wx => u = .bool false ∧ Chg (fun _ => False) wq wx)
              case first =>
                clear c0 c1 c2 c3 c4 c5 c6 d0 d1 d2 cs hgq
                have hs0 : (xr.toList == xr.toList) = true := by simp
                rcases hx with rfl | hx0
                · go_quiet (fail)
                  go_wp2_with fail
                  go_meet
                  exact ⟨rfl, (Chg.refl _ wq).drewNR _⟩
                · rw [hx0] at y3
                  cases xc with
                  | false =>
                    go_quiet (fail)
                    go_wp2_with fail
                    go_meet
                    exact ⟨rfl, (Chg.refl _ wq).drewNR _⟩
                  | true =>
                    go_quiet (fail)
                    go_wp2_with fail
                    go_meet
                    exact ⟨rfl, (Chg.refl _ wq).drewNR _⟩
              case rest =>
                obtain ⟨rfl, hcx⟩ := hcut
                have HCX := Lib.hid (HC2.trans' hcx)
                have HY := Lib.hid hcx
                clear c0 c1 c2 c3 c4 c5 c6 d0 d1 d2 cs y2 y3 y4 y6 y7 y8 a1 a2 hx hgq hcq HC2 hcx
                go_wp2_with fail
                go_loopw [9] (fun u9 wp => ∃ k : Nat, k ≤ i ∧ u9 = .int .i64 k ∧ Chg (fun _ => False) wc wp) (fun u9 _ => i - (intOf u9).toNat)
                case atStart => exact ⟨0, Nat.zero_le _, rfl, .refl _ _⟩
                case round =>
                  obtain ⟨k, hk, rfl, hcp⟩ := hrel
                  by_cases hki : k < i
                  · have hcw := HCX.out.trans' hcp
                    have d1 := hcw.cell b1
                    have z0 := (HY.out.trans' hcp).cell y0
                    have z1 := (HY.out.trans' hcp).cell y1
                    obtain ⟨_, _, _, hv9, _, _, _, _, hat⟩ := (op1'.still hcw).at (by have := HLT.out; omega)
                    simp only [Value.slice.injEq, Option.some.injEq, Addr.mk.injEq, and_true] at hv9
                    obtain ⟨⟨rfl, rfl⟩, _, rfl⟩ := hv9
                    obtain ⟨_, _, ⟨_, _, rfl, _, _⟩, _, hcells⟩ := hat k (by have := HLT.out; omega)
                    have c0 : wr.cell? ⟨g, off + k * 7 + 0, none⟩ = some (.string st.entries[k].page) := hcells 0 _ rfl
                    have c1 : wr.cell? ⟨g, off + k * 7 + 1, none⟩ = some (.int .i64 st.entries[k].number) := hcells 1 _ rfl
                    rw [Nat.add_zero] at c0
                    have hne := HNE.out k hki
                    have x0 : (0 : Int) ≤ (k : Int) := Int.natCast_nonneg _
                    have x1 : (k : Int) < (st.entries.length : Int) := by omega
                    have x2 : (k : Int) < (i : Int) := by omega
                    have wk : IntKind.i64.wrap ((k : Int) + 1) = (k : Int) + 1 := IntWalk.i64_in _ (by omega)
                    clear hcells hat hcw
                    generalize st.entries[k].page = pk at *
                    generalize st.entries[k].number = nk at *
                    by_cases hpk : pk = xp
                    · have hnk : ¬ nk = xn := fun e => hne ⟨hpk, e⟩
                      subst hpk
                      have h1 : (nk == xn) = false := by simpa using hnk
                      have h2 : (pk.toList == pk.toList) = true := by simp
                      clear hne hnk
                      go_wp2_with fail
                      go_quiet (fail)
                      go_wp2_with fail
                      go_roundw
                      case rel => exact ⟨k + 1, by omega, by go_num, hcp.drewNR _⟩
                      case measure => simp [intOf]; omega
                    · have h1 : (pk.toList == xp.toList) = false := beq_bytes_false hpk
                      clear hne hpk
                      go_wp2_with fail
                      go_quiet (fail)
                      go_wp2_with fail
                      go_roundw
                      case rel => exact ⟨k + 1, by omega, by go_num, hcp.drewNR _⟩
                      case measure => simp [intOf]; omega
                  · obtain rfl : k = i := by omega
                    go_wp2_with fail
                    go_roundw
                    case rel => exact ⟨k + 1, HLT.out, by go_num, HCX.out.trans' hcp⟩
                    case measure => have := HLT.out; simp [intOf]; omega
            · obtain rfl : i = st.entries.length := by omega
              obtain ⟨v0, v1, v2, e0, e1, e2, hag⟩ := stateAgg (HHH.out.still hch)
              have HND : Hid F.Nodup := Lib.hid HHH.out.nd
              have HCH := Lib.hid hch
              rw [d0] at e0
              rw [d1] at e1
              rw [d2] at e2
              cases e0
              cases e1
              cases e2
              clear hch hlt hi
              go_wp2_with fail
              refine (encode_yes _ _ _ _ st F hag HND.out HEN.out HOK.out).mono ?_
              rintro e w6 ⟨rfl, hc6⟩
              rw [HEQ.out]
              clear hag d0 d1 d2
              go_wp2_with fail
              go_ret
              exact ⟨rfl, ((HC.out.trans' HCH.out).trans' hc6).below (Nat.le_refl _) (fun _ h => h.elim)⟩
  · as_aux_lemma =>
      have e0 : st.owners.length = 0 := by rw [hst]; rfl
      have e1 : st.entries.length = 0 := by rw [hst]; rfl
      have e2 : st.sent.length = 0 := by rw [hst]; rfl
      rw [e0, e1, e2] at b0 b1 b2 hcA
      have HC := Lib.hid hcA
      clear hcA HH op0' op1' HSE2 L0 L1 hst
      go_wp2_with fail
      go_ret
      exact ⟨rfl, HC.out.below (Nat.le_refl _) (fun _ h => h.elim)⟩
theorem ticketDecodes_walk (s : ByteArray) (w : World) (hs : s.size ≤ maxLen) :
    Calls Try.prog 9 #[.string s] w fun e w' => e = .returned (.bool true) ∧ Below w.heap.size w w' := by
  by_cases hl : 600 < s.size
  · exact ticketDecodes_long s w hs hl
  · exact ticketDecodes_ok s w hl
set_option maxRecDepth 100000 in
theorem ticketDecodes_lifted (os : Os) (started : os.Started) (H : Type) (enc : TypeId × Value → H) :
    ReturnsInHanded {} Try.checked os 9 .any (Rows.ticketDecodesSpec.pre6 enc Try.prog Try.f9 [] false) (Rows.ticketDecodesSpec.post enc Try.prog Try.f9 false true false false) := by
  refine law_lift (C := Try.checked) (tb := 4) started Try.own Try.laidOut (by kernel_rfl) Try.func9 (by kernel_rfl) rfl Try.underlying4 rfl ?_
    (ChangeSpec.witness6 (enc := enc) (C := Try.checked) false ⟨#[], #[.string ByteArray.empty], []⟩ 8 (by kernel_rfl) (by kernel_rfl) (by kernel_rfl) (by kernel_rfl)) ?_
  · intro ds h
    match ds, h with
    | [_], _ => rfl
  · intro W base vs ds ps hval hA hsz
    have hp : Try.f9.params.toList = [9] := by rw [Try.params9]
    rw [hp] at hval hA hsz
    obtain ⟨v0, vs0, d0, ds0, p0, q0, rfl, rfl, rfl, h0, r0⟩ := trodAll_cons hA
    obtain ⟨rfl, rfl, rfl⟩ := trodAll_nil r0
    obtain ⟨a0, rfl, rfl, rfl, w0⟩ := open_string Try.underlying9 (hval 0 9 v0 rfl rfl) h0
    have l0 : a0.size ≤ 140737488351232 := by have := sized_string hsz (j := 0) (t := 9) rfl rfl; simpa [reachBytes] using this
    exact ticketDecodes_walk a0 W w0

theorem ticketDecodes_holds : Rows.TicketDecodesSaid :=
  OpenClaim.holds_of_wide 9 Try.f9 rfl rfl rfl rfl rfl rfl rfl ⟨rfl, rfl, rfl, rfl, rfl⟩ rfl rfl rfl rfl rfl (by kernel_rfl) Try.func9 (by kernel_rfl)
    (of_decide_eq_true (by kernel_rfl)) (by unfold Func.isWrapper; first | (rw [if_pos (by decide +kernel)]; kernel_rfl) | (rw [if_neg (by decide +kernel)]; exact ⟨rfl, rfl⟩))
    (fun os started H enc _ => ticketDecodes_lifted os started H enc)
#print axioms ticketDecodes_holds
end Go.Proofs.Ytaacafdlklnegaa
