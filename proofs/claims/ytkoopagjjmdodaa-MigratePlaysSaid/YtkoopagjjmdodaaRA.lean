/-
  The reference of layer 54: Count, Piece, Find, Name, has.
  The reference of layer 54: say, offer, part.
  The reference of layer 54: offer, part, has, Start.
  The reference of layer 54: Start, Withdraw, has.
  A thing stored as a whole; the reference of layer 54: Hand.
-/
import Derived.Test.YtkoopagjjmdodaaMri
import Derived.Test.YtkoopagjjmdodaaWlda
import Derived.Test.YtkoopagjjmdodaaHany
namespace Go.Proofs.Ytkoopagjjmdodaa
open Go.RowKit
set_option linter.unusedVariables false
set_option linter.unusedSimpArgs false

theorem partsL_many : ∀ (n : Nat) (l : ByteArray), l.size ≤ n → (partsL l).length = max ((l.size + 999) / 1000) 1 := by
  intro n
  induction n using Nat.strongRecOn with
  | _ n ih =>
    intro l hl
    by_cases h : 1000 < l.size
    · rw [partsL_big h, List.length_cons]
      have hs : (l.extract 1000 l.size).size = l.size - 1000 := by rw [ByteArray.size_extract]; omega
      rw [ih (l.size - 1000) (by omega) _ (by omega), hs]
      omega
    · rw [partsL_small h]
      show 1 = _
      omega
theorem extract_all (l : ByteArray) : l.extract 0 l.size = l := by
  refine ByteArray.ext (Array.toList_inj.1 ?_)
  have : l.data.toList.length = l.size := by simp
  rw [Lib.extract_data, List.drop_zero, Nat.sub_zero, List.take_of_length_le (by omega)]
set_option maxRecDepth 100000 in
theorem partsL_get : ∀ (n : Nat) (l : ByteArray), l.size ≤ n → ∀ i, i < (partsL l).length → (partsL l).getD i ⟨#[]⟩ = l.extract (i * 1000) (min ((i + 1) * 1000) l.size) := by
  intro n
  induction n using Nat.strongRecOn with
  | _ n ih =>
    intro l hl i hi
    by_cases h : 1000 < l.size
    · rw [partsL_big h] at hi ⊢
      have hs : (l.extract 1000 l.size).size = l.size - 1000 := by rw [ByteArray.size_extract]; omega
      cases i with
      | zero => rw [List.getD_cons_zero, show min ((0 + 1) * 1000) l.size = 1000 by omega]
      | succ i =>
        rw [List.getD_cons_succ, ih (l.size - 1000) (by omega) _ (by omega) i (by simpa using hi), hs]
        refine ByteArray.ext (Array.toList_inj.1 ?_)
        rw [Lib.extract_data, Lib.extract_data, Lib.extract_data]
        have hd : l.data.toList.length = l.size := by simp
        rw [List.take_of_length_le (l := l.data.toList.drop 1000) (by rw [List.length_drop]; omega), List.drop_drop]
        have e1 : 1000 + i * 1000 = (i + 1) * 1000 := by omega
        have e2 : min ((i + 1) * 1000) (l.size - 1000) - i * 1000 = min ((i + 1 + 1) * 1000) l.size - (i + 1) * 1000 := by omega
        rw [e1, e2]
    · rw [partsL_small h] at hi ⊢
      have : i = 0 := by simpa using hi
      subst this
      rw [List.getD_cons_zero, show min ((0 + 1) * 1000) l.size = l.size by omega]
      exact (extract_all l).symm

set_option maxHeartbeats 800000 in
set_option maxRecDepth 100000 in
theorem rcount_any (letter : ByteArray) (w : World) (hs : letter.size ≤ 1000000000) :
    Calls Try.prog 51 #[.string letter] w fun e w' => e = .returned (.int .i64 ((partsL letter).length : Int)) ∧ w = w' := by
  have hm := partsL_many _ letter (Nat.le_refl _)
  have hm2 : ((partsL letter).length : Int) = max (((letter.size : Int) + 999) / 1000) 1 := by omega
  have s0 : (0 : Int) ≤ (letter.size : Int) := Int.natCast_nonneg _
  have s1 : (letter.size : Int) ≤ 1000000000 := by omega
  have HM := Lib.hid hm2
  clear hm hm2
  go_enter Try.func51, Try.ntmps51
  go_wp2_with fail
  go_ret
  exact ⟨by rw [HM.out]; rfl, rfl⟩
set_option maxHeartbeats 800000 in
set_option maxRecDepth 100000 in
theorem rpiece_any (letter : ByteArray) (i : Nat) (w : World) (hs : letter.size ≤ 1000000000) (hi : i < (partsL letter).length) :
    Calls Try.prog 68 #[.string letter, .int .i64 i] w fun e w' => e = .returned (.string ((partsL letter).getD i ⟨#[]⟩)) ∧ w = w' := by
  have hg := partsL_get _ letter (Nat.le_refl _) i hi
  have hm := partsL_many _ letter (Nat.le_refl _)
  have s0 : (0 : Int) ≤ (letter.size : Int) := Int.natCast_nonneg _
  have s1 : (letter.size : Int) ≤ 1000000000 := by omega
  have i0 : (0 : Int) ≤ (i : Int) := Int.natCast_nonneg _
  have i1 : (i : Int) ≤ 1000001 := by omega
  have i2 : (i : Int) * 1000 ≤ (letter.size : Int) := by omega
  have HG := Lib.hid hg
  clear hg hm hi
  go_enter Try.func68, Try.ntmps68
  go_wp2_with fail
  go_ret
  have e : (min (((i : Int) + 1) * 1000) (letter.size : Int)).toNat = min ((i + 1) * 1000) letter.size := by omega
  refine ⟨?_, rfl⟩
  rw [HG.out, ← e]
  rfl
set_option maxHeartbeats 1600000 in
set_option maxRecDepth 100000 in
theorem rfind_any (w : World) (b o : Nat) (h : Host) (F : List Nat) (page : ByteArray) (H : Here hostR w b o h F) (hl : Few h.seats.length) :
    Calls Try.prog 49 #[.pointer (some ⟨b, o, none⟩), .string page] w fun e w' => e = .returned (.int .i64 (idxOf (findS page h.seats 0))) ∧ w = w' := by
  obtain ⟨vs, vo, c0, c1, c2, F1, F2, hs, -⟩ := hostCells H
  obtain ⟨xs, Fs, hopen⟩ := Rep.opened hs
  obtain ⟨a, cap, rfl, hle, hcap⟩ := hopen.val
  have HH := Lib.hid H
  have hll : (h.seats.length : Int) ≤ 1000000000 := by have := hl.lt; omega
  clear hs hopen hle hcap hl H
  go_enter Try.func49, Try.ntmps49
  go_wp2_with fail
  go_loopw [5] (fun s5 wr => ∃ k : Nat, k ≤ h.seats.length ∧ s5 = .int .i64 k ∧ wr = w ∧ Hid (findS page h.seats 0 = findS page (h.seats.drop k) k)) (fun s5 _ => h.seats.length - (intOf s5).toNat)
  case atStart => exact ⟨0, Nat.zero_le _, rfl, rfl, rfl⟩
  case round =>
    obtain ⟨k, hk, rfl, rfl, HF⟩ := hrel
    have k0 : (0 : Int) ≤ (k : Int) := Int.natCast_nonneg _
    by_cases hlt : k < h.seats.length
    · have k1 : (k : Int) < (h.seats.length : Int) := by omega
      obtain ⟨g, off, cp, hv⟩ := hostRow HH.out (by omega)
      rw [c1] at hv
      cases hv
      obtain ⟨G, HS, -⟩ := hostSeat HH.out c1 hlt
      obtain ⟨_, _, _, s0, -⟩ := seatCells HS
      have hF := HF.out
      rw [List.drop_eq_getElem_cons hlt, findS] at hF
      generalize h.seats[k] = y at *
      clear HS
      by_cases hq : (y.page.toList == page.toList) = true
      · rw [if_pos hq] at hF
        have HF2 := Lib.hid hF
        clear hF HF
        go_wp2_with fail
        go_ret
        exact ⟨by rw [HF2.out]; rfl, rfl⟩
      · rw [if_neg hq] at hF
        rw [Bool.not_eq_true] at hq
        have HF2 := Lib.hid hF
        clear hF HF
        go_wp2_with fail
        go_roundw
        case rel => exact ⟨k + 1, hlt, by go_num, trivial, HF2⟩
        case measure => simp [intOf]; omega
    · have hF := HF.out
      rw [List.drop_of_length_le (by omega), findS] at hF
      have HF2 := Lib.hid hF
      clear hF HF
      go_wp2_with fail
      go_ret
      exact ⟨by rw [HF2.out]; rfl, rfl⟩
def nameB (k : Nat) : ByteArray := if k % 2 = 0 then ⟨#[112]⟩ else ⟨#[113]⟩
set_option maxHeartbeats 800000 in
set_option maxRecDepth 100000 in
theorem rname_any (k : Nat) (hk : k < 256) (w : World) :
    Calls Try.prog 23 #[.int .u8 k] w fun e w' => e = .returned (.string (nameB k)) ∧ Chg (fun _ => False) w w' := by
  have k0 : (0 : Int) ≤ (k : Int) := Int.natCast_nonneg _
  have k1 : (k : Int) < 256 := by omega
  unfold nameB
  by_cases h : k % 2 = 0
  · have h2 : (k : Int) % 2 = 0 := by omega
    rw [if_pos h]
    clear h
    go_enter Try.func23, Try.ntmps23
    go_wp2_with fail
    go_ret
    exact ⟨rfl, Chg.alloc _ _ _⟩
  · have h2 : (k : Int) % 2 = 1 := by omega
    rw [if_neg h]
    clear h
    go_enter Try.func23, Try.ntmps23
    go_wp2_with fail
    go_ret
    exact ⟨rfl, Chg.alloc _ _ _⟩
end Go.Proofs.Ytkoopagjjmdodaa
namespace Go.Proofs.Ytkoopagjjmdodaa
open Go.RowKit
set_option linter.unusedVariables false
set_option linter.unusedSimpArgs false

set_option maxHeartbeats 1600000 in
set_option maxRecDepth 100000 in
theorem rsay_any (w : World) (b o : Nat) (id : Int) (out : List Msg) (G : List Nat) (kd dst ep : Int) (page : ByteArray) (hid : w.cell? ⟨b, o, none⟩ = some (.int .i64 id)) (H : Here outR w b (o + 2) out G) (hl : Few out.length) :
    Calls Try.prog 53 #[.pointer (some ⟨b, o, none⟩), .int .i64 kd, .int .i64 dst, .string page, .int .i64 ep] w fun e w' => e = .returned (.tuple #[]) ∧ PutPost w b o (out ++ [⟨kd, id, dst, page, ep, 0, 0, ⟨#[]⟩⟩]) G w' := by
  obtain ⟨a, cap, c2, hrow, hle, hcap, fz, haft⟩ := outAppending H
  have hcA := (Chg.alloc (fun _ => False) w (.cells #[.int .i64 kd, .int .i64 id, .int .i64 dst, .string page, .int .i64 ep, .int .i64 0, .int .i64 0, .string ⟨#[]⟩] 39)).drewR
  have hrA := hrow.chg hcA (fun _ _ x => x)
  have c2A := hcA.cell c2
  have cidA := hcA.cell hid
  have c2d : w.drew.cell? ⟨b, o + 2, none⟩ = some (.slice a out.length cap) := c2
  have cidd : w.drew.cell? ⟨b, o, none⟩ = some (.int .i64 id) := hid
  have hgA : (w.alloc (.cells #[.int .i64 kd, .int .i64 id, .int .i64 dst, .string page, .int .i64 ep, .int .i64 0, .int .i64 0, .string ⟨#[]⟩] 39)).drew.heap[w.heap.size]? = some (.cells [.int .i64 kd, .int .i64 id, .int .i64 dst, .string page, .int .i64 ep, .int .i64 0, .int .i64 0, .string ⟨#[]⟩].toArray 39 (0, 0)) := alloc_block w _
  have HRA := Lib.hid hrA
  have HGA := Lib.hid hgA
  have HCA := Lib.hid hcA
  have HAFT := Lib.hid haft
  have HE := Lib.hid elem_msg
  clear hrow hle hcap fz haft hcA hrA hgA c2 hid
  go_enter Try.func53, Try.ntmps53
  go_region_law
    ((refine step_append_elem (by rfl) _ _ _ (by rfl) 39 8 80 Try.underlying24 HE.out (by decide) _ out.length (out.flatMap Msg.cells) (by rfl) HRA.out [.int .i64 kd, .int .i64 id, .int .i64 dst, .string page, .int .i64 ep, .int .i64 0, .int .i64 0, .string ⟨#[]⟩] rfl w.heap.size 39 (0, 0) (by rfl) HGA.out (by simp [Value.oneCell']) (by have := hl.lt; unfold maxLen; omega) (by have := hl.lt; omega) ?_; intro a2 n2 cp2 w2 hrow2 hchg2 hold2; obtain ⟨hfin, g2, f2⟩ := HAFT.out _ w2 (.slice a2 n2 cp2) [⟨kd, id, dst, page, ep, 0, 0, ⟨#[]⟩⟩] HCA.out (by simpa [Msg.cells] using hrow2) hchg2 hold2; have HFIN := Lib.hid hfin; clear hfin))
  all_goals (
    go_wp2_with fail
    go_end0
    exact ⟨rfl, HFIN.out⟩)
end Go.Proofs.Ytkoopagjjmdodaa
namespace Go.Proofs.Ytkoopagjjmdodaa
open Go.RowKit
set_option linter.unusedVariables false
set_option linter.unusedSimpArgs false

theorem PutPost.pre {w0 w w' : World} {b o : Nat} {out : List Msg} {G : List Nat} (hc : Chg (fun _ => False) w0 w) (h : PutPost w b o out G w') : PutPost w0 b o out G w' := by
  obtain ⟨G', h1, h2⟩ := h
  exact ⟨G', h1, (Step.ofChg hc).trans h2⟩
/-- The last message of a row. -/
theorem lastMsg {w : World} {b o : Nat} {out : List Msg} {m : Msg} {G : List Nat} (H : Here outR w b o (out ++ [m]) G) :
    ∃ g off cap, w.cell? ⟨b, o, none⟩ = some (.slice (some ⟨g, off, none⟩) (out.length + 1) cap) ∧ g ≠ b ∧ g ∈ G ∧ ∃ Ge, Here msgR w g (off + out.length * 8) m Ge ∧ (∀ x ∈ Ge, x ∈ G) ∧
      ∀ w' m' Ge', Here msgR w' g (off + out.length * 8) m' Ge' → Step w w' g (off + out.length * 8) 8 Ge Ge' → ∃ G', Here outR w' b o (out ++ [m']) G' ∧ Step w w' b o 1 G G' := by
  obtain ⟨g, off, cap, h1, -, -, h4, h5, h6⟩ := H.elem (by simp)
  obtain ⟨Ge, k1, k2, k3⟩ := h6 out.length (by simp)
  rw [List.length_append] at h1
  have e1 : (out ++ [m])[out.length]'(by simp) = m := by simp
  rw [e1] at k1
  refine ⟨g, off, cap, h1, h4, h5, Ge, k1, k2, fun w' m' Ge' q1 q2 => ?_⟩
  obtain ⟨F', r1, r2⟩ := k3 w' m' Ge' q1 q2
  refine ⟨F', ?_, r2⟩
  have e2 : (out ++ [m]).set out.length m' = out ++ [m'] := by
    rw [List.set_append_right _ _ (Nat.le_refl _), Nat.sub_self]
    rfl
  rw [e2] at r1
  exact r1
set_option maxHeartbeats 1600000 in
set_option maxRecDepth 100000 in
theorem roffer_any (w : World) (b o : Nat) (id : Int) (out : List Msg) (G : List Nat) (s : Seat) (a5 a6 a7 : Option Addr) (n5 n6 n7 c5 c6 c7 : Nat) (hid : w.cell? ⟨b, o, none⟩ = some (.int .i64 id)) (H : Here outR w b (o + 2) out G) (hl : Few out.length) (hz : s.letter.size ≤ 1000000000) :
    Calls Try.prog 50 #[.pointer (some ⟨b, o, none⟩), .agg #[.string s.page, .int .i64 s.state, .int .i64 s.epoch, .int .i64 s.peer, .string s.letter, .slice a5 n5 c5, .slice a6 n6 c6, .slice a7 n7 c7]] w fun e w' => e = .returned (.tuple #[]) ∧ PutPost w b o (out ++ [offerMsg id s (partsL s.letter).length]) G w' := by
  have hc1 := Chg.alloc (fun _ => False) w (.cells #[.string s.page, .int .i64 s.state, .int .i64 s.epoch, .int .i64 s.peer, .string s.letter, .slice a5 n5 c5, .slice a6 n6 c6, .slice a7 n7 c7] 67)
  have g1 := alloc_block w (.cells #[.string s.page, .int .i64 s.state, .int .i64 s.epoch, .int .i64 s.peer, .string s.letter, .slice a5 n5 c5, .slice a6 n6 c6, .slice a7 n7 c7] 67)
  have hblt := H.lt
  go_enter Try.func50, Try.ntmps50
  go_upto_region 1 with fail
  generalize hmb : w.heap.size = mb at *
  generalize w.alloc (.cells #[.string s.page, .int .i64 s.state, .int .i64 s.epoch, .int .i64 s.peer, .string s.letter, .slice a5 n5 c5, .slice a6 n6 c6, .slice a7 n7 c7] 67) = w1 at *
  have m0 : w1.cell? ⟨mb, 0, none⟩ = some (.string s.page) := cell_of_block (i := 0) g1 rfl
  have m2 : w1.cell? ⟨mb, 2, none⟩ = some (.int .i64 s.epoch) := cell_of_block (i := 2) g1 rfl
  have m3 : w1.cell? ⟨mb, 3, none⟩ = some (.int .i64 s.peer) := cell_of_block (i := 3) g1 rfl
  have m4 : w1.cell? ⟨mb, 4, none⟩ = some (.string s.letter) := cell_of_block (i := 4) g1 rfl
  have H1 := H.still hc1
  have hid1 := hc1.cell hid
  have hmbb : mb ≠ b := by omega
  have hmbG : mb ∉ G := fun hx => by have := hblt.2 mb hx; omega
  have HM4 := Lib.hid m4
  have HCC := Lib.hid hc1
  clear g1 hc1 H hid
  go_wp2_with fail
  refine (rsay_any w1 b o id out G 1 s.peer s.epoch s.page hid1 H1 hl).mono ?_
  rintro e w2 ⟨rfl, G2, H2, S2⟩
  have m4b := S2.cellNe HM4.out hmbG hmbb
  obtain ⟨g, off, cap, c2, hgb, hgG, Ge, HE, -, hback⟩ := lastMsg H2
  have fz := HE.frozen (off + out.length * 8 + 6)
  obtain ⟨G6, HE6, S6⟩ := HE.setField msgR_count (y := ((partsL s.letter).length : Int)) (v := .int .i64 ((partsL s.letter).length : Int)) rfl
  have c6 := Here.cells (cs := []) HE 6 _ rfl
  obtain ⟨G7, H7, S7⟩ := hback _ _ _ HE6 S6
  have HH7 := Lib.hid H7.drew
  have HS7 := Lib.hid ((S2.trans S7).drewR)
  have c2d : w2.drew.cell? ⟨b, o + 2, none⟩ = some (.slice (some ⟨g, off, none⟩) (out.length + 1) cap) := c2
  have m4d : w2.drew.cell? ⟨mb, 4, none⟩ = some (.string s.letter) := m4b
  have c6d : w2.drew.cell? ⟨g, off + out.length * 8 + 6, none⟩ = some (.int .i64 0) := c6
  have fzd : w2.drew.frozen? ⟨g, off + out.length * 8 + 6, none⟩ = false := fz
  have hol : (out.length : Int) < 1000000000 := by have := hl.lt; omega
  have wj : IntKind.i64.wrap (out.length : Int) = (out.length : Int) := IntWalk.i64_in _ (by omega)
  have o0 : (0 : Int) ≤ (out.length : Int) := Int.natCast_nonneg _
  have o1 : (out.length : Int) < (out.length : Int) + 1 := by omega
  have HCN := Lib.hid (fun W => rcount_any s.letter W hz)
  clear m0 m2 m3 m4 H1 hid1 HE6 S6 hback HE H7 S7 H2 S2 c2 m4b c6 fz
  go_wp2_with fail
  go_region_law ((go_simp; go_at_call 51; refine (HCN.out _).mono ?_; rintro e wy ⟨rfl, rfl⟩))
  all_goals (
    go_wp2_with fail
    go_end0
    refine ⟨rfl, PutPost.pre HCC.out ⟨G7, ?_, ?_⟩⟩
    · exact HH7.out
    · exact HS7.out)
set_option maxHeartbeats 3200000 in
set_option maxRecDepth 100000 in
theorem rpart_any (w : World) (b o : Nat) (id : Int) (out : List Msg) (G : List Nat) (s : Seat) (i : Nat) (a5 a6 a7 : Option Addr) (n5 n6 n7 c5 c6 c7 : Nat) (hid : w.cell? ⟨b, o, none⟩ = some (.int .i64 id)) (H : Here outR w b (o + 2) out G) (hl : Few out.length) (hz : s.letter.size ≤ 1000000000) (hi : i < (partsL s.letter).length) :
    Calls Try.prog 52 #[.pointer (some ⟨b, o, none⟩), .agg #[.string s.page, .int .i64 s.state, .int .i64 s.epoch, .int .i64 s.peer, .string s.letter, .slice a5 n5 c5, .slice a6 n6 c6, .slice a7 n7 c7], .int .i64 i] w fun e w' => e = .returned (.tuple #[]) ∧ PutPost w b o (out ++ [⟨2, id, s.peer, s.page, s.epoch, i, (partsL s.letter).length, (partsL s.letter).getD i ⟨#[]⟩⟩]) G w' := by
  have hc1 := Chg.alloc (fun _ => False) w (.cells #[.string s.page, .int .i64 s.state, .int .i64 s.epoch, .int .i64 s.peer, .string s.letter, .slice a5 n5 c5, .slice a6 n6 c6, .slice a7 n7 c7] 67)
  have g1 := alloc_block w (.cells #[.string s.page, .int .i64 s.state, .int .i64 s.epoch, .int .i64 s.peer, .string s.letter, .slice a5 n5 c5, .slice a6 n6 c6, .slice a7 n7 c7] 67)
  have hblt := H.lt
  go_enter Try.func52, Try.ntmps52
  go_upto_region 1 with fail
  generalize hmb : w.heap.size = mb at *
  generalize w.alloc (.cells #[.string s.page, .int .i64 s.state, .int .i64 s.epoch, .int .i64 s.peer, .string s.letter, .slice a5 n5 c5, .slice a6 n6 c6, .slice a7 n7 c7] 67) = w1 at *
  have m0 : w1.cell? ⟨mb, 0, none⟩ = some (.string s.page) := cell_of_block (i := 0) g1 rfl
  have m2 : w1.cell? ⟨mb, 2, none⟩ = some (.int .i64 s.epoch) := cell_of_block (i := 2) g1 rfl
  have m3 : w1.cell? ⟨mb, 3, none⟩ = some (.int .i64 s.peer) := cell_of_block (i := 3) g1 rfl
  have m4 : w1.cell? ⟨mb, 4, none⟩ = some (.string s.letter) := cell_of_block (i := 4) g1 rfl
  have H1 := H.still hc1
  have hid1 := hc1.cell hid
  have hmbb : mb ≠ b := by omega
  have hmbG : mb ∉ G := fun hx => by have := hblt.2 mb hx; omega
  have HM4 := Lib.hid m4
  have HCC := Lib.hid hc1
  have HI := Lib.hid hi
  have i0 : (0 : Int) ≤ (i : Int) := Int.natCast_nonneg _
  clear g1 hc1 H hid hi
  go_wp2_with fail
  refine (rsay_any w1 b o id out G 2 s.peer s.epoch s.page hid1 H1 hl).mono ?_
  rintro e w2 ⟨rfl, G2, H2, S2⟩
  have m4b := S2.cellNe HM4.out hmbG hmbb
  obtain ⟨g, off, cap, c2, hgb, hgG, Ge, HE, -, hback⟩ := lastMsg H2
  have hgm : mb ≠ g := by
    intro e
    subst e
    rcases S2.new mb hgG with x | x
    · exact hmbG x
    · have := World.block_lt_of_cell? w1 _ HM4.out
      simp at this; omega
  have fz6 := HE.frozen (off + out.length * 8 + 6)
  have k6 := Here.cells (cs := []) HE 6 _ rfl
  obtain ⟨G6, HE6, S6⟩ := HE.setField msgR_count (y := ((partsL s.letter).length : Int)) (v := .int .i64 ((partsL s.letter).length : Int)) rfl
  have c2b := (Chg.setCell w2 ⟨g, off + out.length * 8 + 6, none⟩ (.int .i64 ((partsL s.letter).length : Int))).cellNo c2 (fun e => hgb e.symm)
  have m4c := (Chg.setCell w2 ⟨g, off + out.length * 8 + 6, none⟩ (.int .i64 ((partsL s.letter).length : Int))).cellNo m4b hgm
  have hol : (out.length : Int) < 1000000000 := by have := hl.lt; omega
  have wj : IntKind.i64.wrap (out.length : Int) = (out.length : Int) := IntWalk.i64_in _ (by omega)
  have o0 : (0 : Int) ≤ (out.length : Int) := Int.natCast_nonneg _
  have o1 : (out.length : Int) < (out.length : Int) + 1 := by omega
  have HCN := Lib.hid (fun W => rcount_any s.letter W hz)
  have HPC := Lib.hid (fun W => rpiece_any s.letter i W hz HI.out)
  have HBK := Lib.hid hback
  have HS2 := Lib.hid S2
  have HHE6 := Lib.hid HE6
  have HS6 := Lib.hid S6
  have c2d : w2.drew.cell? ⟨b, o + 2, none⟩ = some (.slice (some ⟨g, off, none⟩) (out.length + 1) cap) := c2
  have m4d : w2.drew.cell? ⟨mb, 4, none⟩ = some (.string s.letter) := m4b
  have k6d : w2.drew.cell? ⟨g, off + out.length * 8 + 6, none⟩ = some (.int .i64 0) := k6
  have fzd : w2.drew.frozen? ⟨g, off + out.length * 8 + 6, none⟩ = false := fz6
  clear m0 m2 m3 m4 H1 hid1 HE6 S6 hback HE H2 S2 m4b k6 fz6
  go_upto_region 3 with fail
  clear c2
  go_region_law ((go_simp; go_at_call 51; refine (HCN.out _).mono ?_; rintro e wy ⟨rfl, rfl⟩))
  all_goals (
    clear c2d m4d k6d fzd
    have c2e : (w2.setCell ⟨g, off + out.length * 8 + 6, none⟩ (.int .i64 ((partsL s.letter).length : Int))).drew.cell? ⟨b, o + 2, none⟩ = some (.slice (some ⟨g, off, none⟩) (out.length + 1) cap) := c2b
    have m4e : (w2.setCell ⟨g, off + out.length * 8 + 6, none⟩ (.int .i64 ((partsL s.letter).length : Int))).drew.cell? ⟨mb, 4, none⟩ = some (.string s.letter) := m4c
    have HE6 := HHE6.out.drew
    have S6 := HS6.out.drewR
    clear c2b m4c HHE6 HS6
    generalize (w2.setCell ⟨g, off + out.length * 8 + 6, none⟩ (.int .i64 ((partsL s.letter).length : Int))).drew = w4 at *
    have fz5 := HE6.frozen (off + out.length * 8 + 5)
    have k5 := Here.cells (cs := []) HE6 5 _ rfl
    obtain ⟨G5, HE5, S5⟩ := HE6.setField msgR_index (y := (i : Int)) (v := .int .i64 (i : Int)) rfl
    have c2f := (Chg.setCell w4 ⟨g, off + out.length * 8 + 5, none⟩ (.int .i64 (i : Int))).cellNo c2e (fun e => hgb e.symm)
    have m4f := (Chg.setCell w4 ⟨g, off + out.length * 8 + 5, none⟩ (.int .i64 (i : Int))).cellNo m4e hgm
    have HE5h := Lib.hid HE5
    have HS5 := Lib.hid (S6.trans S5)
    clear HE6 S6 HE5 S5
    go_upto_region 5 with fail
    clear c2e m4e k5 fz5
    generalize w4.setCell ⟨g, off + out.length * 8 + 5, none⟩ (.int .i64 (i : Int)) = w5 at *
    have c2g : w5.drew.cell? ⟨b, o + 2, none⟩ = some (.slice (some ⟨g, off, none⟩) (out.length + 1) cap) := c2f
    have m4g : w5.drew.cell? ⟨mb, 4, none⟩ = some (.string s.letter) := m4f
    have fz7 : w5.drew.frozen? ⟨g, off + out.length * 8 + 7, none⟩ = false := HE5h.out.frozen (off + out.length * 8 + 7)
    have k7 : w5.drew.cell? ⟨g, off + out.length * 8 + 7, none⟩ = some (.string ⟨#[]⟩) := Here.cells (cs := []) HE5h.out 7 _ rfl
    obtain ⟨G7, HE7, S7⟩ := HE5h.out.setField msgR_data (y := (partsL s.letter).getD i ⟨#[]⟩) (v := .string ((partsL s.letter).getD i ⟨#[]⟩)) rfl
    obtain ⟨G8, H8, S8⟩ := HBK.out _ _ _ HE7 (HS5.out.trans S7)
    have HH8 := Lib.hid H8.drew
    have HS8 := Lib.hid ((HS2.out.trans S8).drewR)
    clear HE7 S7 H8 S8 c2f m4f HBK HS5 HE5h HS2
    go_region_law ((go_simp; go_at_call 68; refine (HPC.out _).mono ?_; rintro e wy ⟨rfl, rfl⟩))
    all_goals (
      go_wp2_with fail
      go_end0
      exact ⟨rfl, PutPost.pre HCC.out ⟨G8, HH8.out, HS8.out⟩⟩))
end Go.Proofs.Ytkoopagjjmdodaa
namespace Go.Proofs.Ytkoopagjjmdodaa
open Go.RowKit
set_option linter.unusedVariables false
set_option linter.unusedSimpArgs false

theorem toList_len (b : ByteArray) : b.toList.length = b.size := by rw [ByteArray.toList_eq]; simp
theorem notEmpty {b : ByteArray} (h : 1 ≤ b.size) : b.toList.isEmpty = false := by
  cases hb : b.toList with
  | nil => have := toList_len b; rw [hb] at this; simp at this; omega
  | cons x l => rfl
theorem isEmpty_of {b : ByteArray} (h : b.size = 0) : b.toList.isEmpty = true := by
  cases hb : b.toList with
  | nil => rfl
  | cons x l => have := toList_len b; rw [hb] at this; simp at this; omega
theorem page_eq {a b : ByteArray} (h : (a.toList == b.toList) = true) : a = b := by
  have h := eq_of_beq h
  rw [ByteArray.toList_eq, ByteArray.toList_eq] at h
  exact ByteArray.ext (Array.toList_inj.1 h)
theorem findS_page (page : ByteArray) : ∀ (l : List Seat) (k i : Nat), findS page l k = some i → ∃ hi : i - k < l.length, l[i - k].page = page
  | [], _, _, h => by simp [findS] at h
  | s :: l, k, i, h => by
    rw [findS] at h
    split at h
    · rename_i hq
      simp at h
      subst h
      refine ⟨by simp, ?_⟩
      simp only [Nat.sub_self, List.getElem_cons_zero]
      exact page_eq hq
    · have hlt := findS_lt page l (k + 1) i h
      obtain ⟨hi, he⟩ := findS_page page l (k + 1) i h
      obtain ⟨j, hj⟩ : ∃ j, i - k = j + 1 := ⟨i - k - 1, by omega⟩
      refine ⟨by rw [hj]; simp; omega, ?_⟩
      have e : i - (k + 1) = j := by omega
      simp only [hj, List.getElem_cons_succ]
      simp only [e] at he
      exact he
theorem findS_page0 {page : ByteArray} {l : List Seat} {i : Nat} (h : findS page l 0 = some i) (hi : i < l.length) : l[i].page = page := by
  obtain ⟨h1, h2⟩ := findS_page page l 0 i h
  simpa using h2
set_option maxHeartbeats 800000 in
set_option maxRecDepth 100000 in
theorem rhas_any (w : World) (v : Value) (l : List Int) (n : Int) (hv : Seen w v (l.map (Value.int .i64))) (hl : Few l.length) :
    Calls Try.prog 54 #[v, .int .i64 n] w fun e w' => e = .returned (.bool (l.contains n)) ∧ w = w' := by
  obtain ⟨p, cap, rfl, h1, h2, h3⟩ := id hv
  rw [List.length_map] at *
  have HV := Lib.hid hv
  have hll : (l.length : Int) ≤ 1000000000 := by have := hl.lt; omega
  clear h1 h2 h3 hv hl
  go_enter Try.func54, Try.ntmps54
  go_wp2_with fail
  go_loopw [5] (fun s5 wr => ∃ k : Nat, k ≤ l.length ∧ s5 = .int .i64 k ∧ wr = w ∧ Hid (l.contains n = (l.drop k).contains n)) (fun s5 _ => l.length - (intOf s5).toNat)
  case atStart => exact ⟨0, Nat.zero_le _, rfl, rfl, rfl⟩
  case round =>
    obtain ⟨k, hk, rfl, rfl, HF⟩ := hrel
    have k0 : (0 : Int) ≤ (k : Int) := Int.natCast_nonneg _
    by_cases hlt : k < l.length
    · have k1 : (k : Int) < (l.length : Int) := by omega
      have hse := HV.out
      rw [show l.length = (l.map (Value.int .i64)).length by rw [List.length_map]] at hse
      obtain ⟨gh, oh, rfl, hcell⟩ := hse.ptr (Chg.refl _ _) (k := k) (u := .int .i64 l[k]) (by rw [List.getElem?_map, List.getElem?_eq_getElem hlt]; rfl)
      have hF := HF.out
      rw [List.drop_eq_getElem_cons hlt, List.contains_cons] at hF
      generalize l[k] = y at *
      clear hse
      by_cases hq : y = n
      · subst hq
        have hq1 : (y == y) = true := by simp
        rw [hq1, Bool.true_or] at hF
        have HF2 := Lib.hid hF
        clear hF HF
        go_wp2_with fail
        go_ret
        exact ⟨by rw [HF2.out]; rfl, rfl⟩
      · have hq1 : (y == n) = false := by simpa using hq
        have hq2 : (n == y) = false := by simpa using fun e => hq e.symm
        rw [hq2, Bool.false_or] at hF
        have HF2 := Lib.hid hF
        clear hF HF hq hq2
        go_wp2_with fail
        go_roundw
        case rel => exact ⟨k + 1, hlt, by go_num, trivial, HF2⟩
        case measure => simp [intOf]; omega
    · have hF := HF.out
      rw [List.drop_of_length_le (by omega)] at hF
      have HF2 := Lib.hid hF
      clear hF HF
      go_wp2_with fail
      go_ret
      exact ⟨by rw [HF2.out]; rfl, rfl⟩
set_option maxHeartbeats 800000 in
set_option maxRecDepth 100000 in
theorem rstart_any (w : World) (b o : Nat) (h : Host) (F : List Nat) (page : ByteArray) (H : Here hostR w b o h F) (hs : page.size ≤ 9223372036854775807) (hl : Few h.seats.length) :
    Calls Try.prog 22 #[.pointer (some ⟨b, o, none⟩), .string page] w fun e w' => e = .returned (.int .i64 (startM h page).1) ∧ HostPost w b o (startM h page).2 F w' := by
  have HS := Lib.hid hs
  clear hs
  by_cases hn : 1 ≤ page.size ∧ page.size ≤ 200
  · have hd0 : page.toList.isEmpty = false := notEmpty hn.1
    have hd2 : decide ((200 : Int) < (page.size : Int)) = false := by simp; omega
    have hsz : (page.size : Int) ≤ 200 := by omega
    obtain ⟨vs, vo, -, c1, -, F1, F2, -⟩ := hostCells H
    cases hf : findS page h.seats 0 with
    | some i =>
      have hM : startM h page = (9, h) := by unfold startM; rw [if_neg (by simpa using hn), if_pos (by rw [hf]; rfl)]
      rw [hM]
      show Calls _ _ _ _ fun e w' => e = .returned (.int .i64 9) ∧ HostPost w b o h F w'
      have hlt := findS_lt page h.seats 0 i hf
      obtain ⟨g, off, cap, hv⟩ := hostRow H (by omega)
      rw [hv] at c1
      cases c1
      have HF := Lib.hid hf
      clear hn hM hf hlt
      go_enter Try.func22, Try.ntmps22
      go_wp2_with fail
      refine (rfind_any w b o h F page H hl).mono ?_
      rintro e w2 ⟨rfl, rfl⟩
      rw [HF.out, show idxOf (some i) = (i : Int) from rfl]
      clear hv
      go_wp2_with fail
      go_ret
      exact ⟨rfl, hostStill H (.refl _ _)⟩
    | none =>
      have hM : startM h page = (0, { h with seats := h.seats ++ [newSeat page] }) := by unfold startM; rw [if_neg (by simpa using hn), if_neg (by rw [hf]; simp)]
      rw [hM]
      show Calls _ _ _ _ fun e w' => e = .returned (.int .i64 0) ∧ HostPost w b o { h with seats := h.seats ++ [newSeat page] } F w'
      have HF := Lib.hid hf
      have HE := Lib.hid elem_seat
      clear hn hM hf
      go_enter Try.func22, Try.ntmps22
      go_wp2_with fail
      refine (rfind_any w b o h F page H hl).mono ?_
      rintro e w2 ⟨rfl, rfl⟩
      rw [HF.out, show idxOf none = -1 from rfl]
      have H2 := H
      obtain ⟨G, HR, -, hback⟩ := H2.field hostR_seats (by show 0 < 3; decide)
      obtain ⟨vr, xs, Fs, d1, hopen⟩ := HR.openRow
      obtain ⟨ar, capr, rfl, _, _⟩ := hopen.val
      have fz := HR.frozen (o + 1)
      have hrowA := hopen.row.alloc (.cells #[.string page, .int .i64 1, .int .i64 1, .int .i64 0, .string ⟨#[]⟩, .slice none 0 0, .slice none 0 0, .slice none 0 0] 67)
      have hchA := Chg.alloc (fun _ => False) w (.cells #[.string page, .int .i64 1, .int .i64 1, .int .i64 0, .string ⟨#[]⟩, .slice none 0 0, .slice none 0 0, .slice none 0 0] 67)
      obtain ⟨cb, Tb, hbox⟩ := HR.boxed
      have HBA := Lib.hid (hchA.keep hbox (fun x => x))
      have hbc : Hid (¬ (Value.slice ar h.seats.length capr).ownBlock = some b) := Lib.hid (fun hk => HR.nb (by rw [hopen.fp]; exact List.mem_append_left _ (mem_ownL.2 hk)))
      have HCC : Hid (cb[o + 1]? = some (.slice ar h.seats.length capr)) := Lib.hid (by simpa [World.cell?, hbox] using d1)
      clear hbox c1
      go_wp2_with (first
        | (at_builtin; refine list_append_elem rfl (.tmp 20) (.tmp 23) 23 rfl 67 8 128 Try.underlying23 HE.out (by decide) _ h.seats.length xs.flatten rfl hrowA [.string page, .int .i64 1, .int .i64 1, .int .i64 0, .string ⟨#[]⟩, .slice none 0 0, .slice none 0 0, .slice none 0 0] rfl w.heap.size 67 (0, 0) rfl (alloc_block w _) (by simp [Value.oneCell']) (by have := hl.lt; unfold maxLen; omega) (by have := hl.lt; omega) ?_; intro a3 n3 c3 w3 hrow3 hchg3 hold3; have hb3 := hchg3.keep HBA.out hbc.out; have f3 := frozen_of_block (i := o + 1) hb3; have cc3 := cell_of_block (i := o + 1) hb3 HCC.out))
      go_ret
      refine ⟨rfl, ?_⟩
      have hown : seatR.own (w.alloc (.cells #[.string page, .int .i64 1, .int .i64 1, .int .i64 0, .string ⟨#[]⟩, .slice none 0 0, .slice none 0 0, .slice none 0 0] 67)) [.string page, .int .i64 1, .int .i64 1, .int .i64 0, .string ⟨#[]⟩, .slice none 0 0, .slice none 0 0, .slice none 0 0] (newSeat page) [] :=
        ⟨_, _, _, [], [], [], rfl, row_flat.2 ⟨_, rfl, RowAt.nil _ _ _, rfl⟩, row_flat.2 ⟨_, rfl, RowAt.nil _ _ _, rfl⟩, row_flat.2 ⟨_, rfl, RowAt.nil _ _ _, rfl⟩, rfl⟩
      obtain ⟨F', p, q⟩ := hopen.push (a := newSeat page) (G := []) HR hchA hown (by simp) (by simp) hrow3 hchg3 hold3
      exact hback _ _ _ p q
  · have hM : startM h page = (1, h) := by unfold startM; rw [if_pos (by simpa using hn)]
    rw [hM]
    show Calls _ _ _ _ fun e w' => e = .returned (.int .i64 1) ∧ HostPost w b o h F w'
    by_cases h0 : page.size = 0
    · have hd0 : page.toList.isEmpty = true := isEmpty_of h0
      clear hn hM h0
      go_enter Try.func22, Try.ntmps22
      go_wp2_with fail
      go_ret
      exact ⟨rfl, hostStill H (.refl _ _)⟩
    · have hd0 : page.toList.isEmpty = false := notEmpty (by omega)
      have hd2 : decide ((200 : Int) < (page.size : Int)) = true := by simp; omega
      have hsz : (page.size : Int) ≤ 9223372036854775807 := by have := HS.out; omega
      clear hn hM h0
      go_enter Try.func22, Try.ntmps22
      go_wp2_with fail
      go_ret
      exact ⟨rfl, hostStill H (.refl _ _)⟩
set_option maxHeartbeats 1600000 in
set_option maxRecDepth 100000 in
theorem rwithdraw_any (w : World) (b o : Nat) (h : Host) (F : List Nat) (page : ByteArray) (H : Here hostR w b o h F) (hl : Few h.out.length) (hsl : Few h.seats.length) :
    Calls Try.prog 26 #[.pointer (some ⟨b, o, none⟩), .string page] w fun e w' => e = .returned (.int .i64 (withdrawM h page).1) ∧ HostPost w b o (withdrawM h page).2 F w' := by
  obtain ⟨vs, vo, c0, c1, -, F1, F2, -⟩ := hostCells H
  cases hf : findS page h.seats 0 with
  | none =>
    have hM : withdrawM h page = (6, h) := by unfold withdrawM; rw [hf]
    rw [hM]
    show Calls _ _ _ _ fun e w' => e = .returned (.int .i64 6) ∧ HostPost w b o h F w'
    have HF := Lib.hid hf
    clear hM hf c0
    go_enter Try.func26, Try.ntmps26
    go_wp2_with fail
    refine (rfind_any w b o h F page H hsl).mono ?_
    rintro e w2 ⟨rfl, rfl⟩
    rw [HF.out, show idxOf none = -1 from rfl]
    go_wp2_with fail
    go_ret
    exact ⟨rfl, hostStill H (.refl _ _)⟩
  | some i =>
    have hlt := findS_lt page h.seats 0 i hf
    have hi : i < h.seats.length := by omega
    obtain ⟨g, off, cap, hv⟩ := hostRow H (by omega)
    rw [hv] at c1
    cases c1
    by_cases hst : h.seats[i].state = 2
    · have hM : withdrawM h page = (0, { h with seats := h.seats.set i { h.seats[i] with state := 3 }, out := h.out ++ [⟨5, h.id, h.seats[i].peer, page, h.seats[i].epoch, 0, 0, ⟨#[]⟩⟩] }) := by unfold withdrawM; rw [hf]; simp [hi, hst, findS_page0 hf hi]
      rw [hM]
      show Calls _ _ _ _ fun e w' => e = .returned (.int .i64 0) ∧ HostPost w b o { h with seats := h.seats.set i { h.seats[i] with state := 3 }, out := h.out ++ [⟨5, h.id, h.seats[i].peer, page, h.seats[i].epoch, 0, 0, ⟨#[]⟩⟩] } F w'
      have HF := Lib.hid hf
      have hb : (h.seats[i].state == 2) = true := by simpa using hst
      clear hM hf hst hlt
      go_enter Try.func26, Try.ntmps26
      go_wp2_with fail
      refine (rfind_any w b o h F page H hsl).mono ?_
      rintro e w2 ⟨rfl, rfl⟩
      rw [HF.out, show idxOf (some i) = (i : Int) from rfl]
      have H2 := H
      have hv2 := hv
      have d0 := c0
      obtain ⟨G, HS, hgb, hbG, hback⟩ := hostSeat H2 hv2 hi
      obtain ⟨_, _, _, s0, s1, s2, s3, -⟩ := seatCells HS
      have fz := HS.frozen (off + i * 8 + 1)
      obtain ⟨G3, HS3, hs3⟩ := HS.setField seatR_state (y := 3) (v := .int .i64 3) rfl
      obtain ⟨hp3, hv3⟩ := hback _ _ _ HS3 hs3
      have hv3b := hv3
      have hpg := findS_page0 HF.out hi
      clear c0
      go_upto_region 7 with fail
      have d3 := hs3.cellNe d0 hbG (fun e => hgb e.symm)
      obtain ⟨F3, H3, hst3⟩ := hp3
      obtain ⟨Go3, HO3, hout⟩ := hostOut H3
      clear s0 s1 s2 s3 fz d0 hv2
      generalize w.setCell ⟨g, off + i * 8 + 1, none⟩ (.int .i64 3) = w3 at *
      obtain ⟨_, _, _, s0, s1, s2, s3, -⟩ := seatCells HS3
      go_still_tail 18, (by kernel_rfl)
      change wpList _ _ _ _ _ w3.drew
      go_wp2_with fail
      refine (rsay_any w3.drew b o h.id h.out Go3 5 h.seats[i].peer h.seats[i].epoch page d3 HO3.drew hl).mono ?_
      rintro e w4 ⟨rfl, G4, h4, hs4⟩
      have hP := (hout w4 _ ⟨G4, h4, hs4.drew⟩).1
      go_wp2_with fail
      go_ret
      obtain ⟨F4, H4, hst4⟩ := hP
      exact ⟨rfl, ⟨F4, H4, hst3.trans hst4⟩⟩
    · have hM : withdrawM h page = (7, h) := by unfold withdrawM; rw [hf]; simp [hi, hst]
      rw [hM]
      show Calls _ _ _ _ fun e w' => e = .returned (.int .i64 7) ∧ HostPost w b o h F w'
      have HF := Lib.hid hf
      have hb : (h.seats[i].state == 2) = false := by simpa using hst
      obtain ⟨G, HS, -⟩ := hostSeat H hv hi
      clear hM hf hst hlt c0
      go_enter Try.func26, Try.ntmps26
      go_wp2_with fail
      refine (rfind_any w b o h F page H hsl).mono ?_
      rintro e w2 ⟨rfl, rfl⟩
      rw [HF.out, show idxOf (some i) = (i : Int) from rfl]
      obtain ⟨_, _, _, s0, s1, s2, s3, -⟩ := seatCells HS
      go_wp2_with fail
      go_ret
      exact ⟨rfl, hostStill H (.refl _ _)⟩
end Go.Proofs.Ytkoopagjjmdodaa
namespace Go.Proofs.Ytkoopagjjmdodaa
open Go.RowKit
set_option linter.unusedVariables false
set_option linter.unusedSimpArgs false

section
variable {β : Type} {B : Rep β} {w : World} {b o : Nat}
/-- All cells of a thing stored anew: what was behind it may have changed before. -/
theorem Here.putAll {x y : β} {G G' : List Nat} {w2 : World} {cs : List Value} (h : Here B w b o x G) (hc : Chg (fun k => k ∈ G) w w2) (hn : 0 < B.n) (hy : B.own w2 cs y G') (nd : G'.Nodup) (new : ∀ k ∈ G', k ∈ G ∨ w.heap.size ≤ k) :
    Here B (w2.setCells b o cs) b o y G' ∧ Step w (w2.setCells b o cs) b o B.n G G' := by
  obtain ⟨c, T, h1, h2⟩ := h.box
  have hl := B.len h2
  have hl2 := B.len hy
  simp only [List.length_take, List.length_drop, Array.length_toList] at hl
  have hsz : o + B.n ≤ c.size := by omega
  have hb : b < w.heap.size := lt_of_block h1
  have nb : b ∉ G' := fun hx => (new b hx).elim h.nb (fun e => by omega)
  have h3 := setCells_block cs o (hc.keep h1 h.nb)
  have hch : Chg (· = b) w2 (w2.setCells b o cs) := Chg.setCells cs w2 o
  refine ⟨⟨⟨_, T, h3, ?_⟩, nb, nd⟩, ⟨?_, new, ?_⟩⟩
  · rw [putAt_toList cs c o (by omega), List.append_assoc, List.drop_left' (by rw [List.length_take, Array.length_toList]; omega), List.take_left' hl2]
    exact B.chg hy hch (fun k hk e => nb (by have e' : k = b := e; rwa [e'] at hk))
  · exact (hc.mono (S' := fun k => k = b ∨ k ∈ G) (fun _ _ x => .inr x)).trans (hch.mono (S' := fun k => k = b ∨ k ∈ G) (fun _ _ x => .inl x)) (fun _ _ x => x) (fun _ _ x => x)
  · intro d U hd
    have h4 := setCells_block cs o (hc.keep hd h.nb)
    rw [h1] at hd
    cases hd
    refine ⟨_, h4, by rw [putAt_size], fun j hj => ?_⟩
    have e : (putAt c o cs)[j]? = (putAt c o cs).toList[j]? := by simp
    rw [e, putAt_toList cs c o (by omega)]
    have e2 : c[j]? = c.toList[j]? := by simp
    rw [e2]
    have ht : (c.toList.take o).length = o := by rw [List.length_take]; simp; omega
    rcases hj with hj | hj
    · rw [List.append_assoc, List.getElem?_append_left (by rw [ht]; exact hj), List.getElem?_take, if_pos hj]
    · rw [List.getElem?_append_right (by rw [List.length_append, ht]; omega), List.length_append, ht, List.getElem?_drop]
      have e5 : o + cs.length + (j - (o + cs.length)) = j := by omega
      rw [e5]
end
/-- A cell that is not stored yet. -/
theorem storeCell {w : World} {g so T : Nat} {c : Array Value} (h : w.heap[g]? = some (.cells c T (0, 0))) (vs : List Value) (hs : so + vs.length ≤ c.size) {u : Value} (hu : c[so + vs.length]? = some u) : (w.setCells g so vs).cell? ⟨g, so + vs.length, none⟩ = some u ∧ (w.setCells g so vs).frozen? ⟨g, so + vs.length, none⟩ = false := by
  have h3 := setCells_block vs so h
  refine ⟨cell_of_block h3 ?_, frozen_of_block h3⟩
  have e : (putAt c so vs)[so + vs.length]? = (putAt c so vs).toList[so + vs.length]? := by simp
  have ht : (c.toList.take so).length = so := by rw [List.length_take]; simp; omega
  rw [e, putAt_toList vs c so hs, List.getElem?_append_right (by rw [List.length_append, ht]; exact Nat.le_refl _), List.length_append, ht, List.getElem?_drop, Nat.sub_self, Nat.add_zero, ← hu]
  simp
theorem drew_cell (w : World) (a : Addr) : w.drew.cell? a = w.cell? a := rfl
theorem drew_frozen (w : World) (a : Addr) : w.drew.frozen? a = w.frozen? a := rfl
theorem setCells_cons (w : World) (b o : Nat) (v : Value) (vs : List Value) : w.setCells b o (v :: vs) = (w.setCell ⟨b, o, none⟩ v).setCells b (o + 1) vs := rfl
theorem setCells_nil (w : World) (b o : Nat) : w.setCells b o [] = w := rfl
/-- Eight cells stored one after the other. -/
theorem store8 {w : World} {g so T : Nat} {c : Array Value} (b0 : w.heap[g]? = some (.cells c T (0, 0))) (v0 v1 v2 v3 v4 v5 v6 v7 : Value) {u0 u1 u2 u3 u4 u5 u6 u7 : Value} (hu : c[so]? = some u0 ∧ c[so + 1]? = some u1 ∧ c[so + 2]? = some u2 ∧ c[so + 3]? = some u3 ∧ c[so + 4]? = some u4 ∧ c[so + 5]? = some u5 ∧ c[so + 6]? = some u6 ∧ c[so + 7]? = some u7) :
    w.drew.cell? ⟨g, so, none⟩ = some u0 ∧ w.drew.frozen? ⟨g, so, none⟩ = false ∧
    (w.setCell ⟨g, so, none⟩ v0).drew.cell? ⟨g, so + 1, none⟩ = some u1 ∧ (w.setCell ⟨g, so, none⟩ v0).drew.frozen? ⟨g, so + 1, none⟩ = false ∧
    ((w.setCell ⟨g, so, none⟩ v0).setCell ⟨g, so + 1, none⟩ v1).drew.cell? ⟨g, so + 2, none⟩ = some u2 ∧ ((w.setCell ⟨g, so, none⟩ v0).setCell ⟨g, so + 1, none⟩ v1).drew.frozen? ⟨g, so + 2, none⟩ = false ∧
    (((w.setCell ⟨g, so, none⟩ v0).setCell ⟨g, so + 1, none⟩ v1).setCell ⟨g, so + 2, none⟩ v2).drew.cell? ⟨g, so + 3, none⟩ = some u3 ∧ (((w.setCell ⟨g, so, none⟩ v0).setCell ⟨g, so + 1, none⟩ v1).setCell ⟨g, so + 2, none⟩ v2).drew.frozen? ⟨g, so + 3, none⟩ = false ∧
    ((((w.setCell ⟨g, so, none⟩ v0).setCell ⟨g, so + 1, none⟩ v1).setCell ⟨g, so + 2, none⟩ v2).setCell ⟨g, so + 3, none⟩ v3).drew.cell? ⟨g, so + 4, none⟩ = some u4 ∧ ((((w.setCell ⟨g, so, none⟩ v0).setCell ⟨g, so + 1, none⟩ v1).setCell ⟨g, so + 2, none⟩ v2).setCell ⟨g, so + 3, none⟩ v3).drew.frozen? ⟨g, so + 4, none⟩ = false ∧
    (((((w.setCell ⟨g, so, none⟩ v0).setCell ⟨g, so + 1, none⟩ v1).setCell ⟨g, so + 2, none⟩ v2).setCell ⟨g, so + 3, none⟩ v3).setCell ⟨g, so + 4, none⟩ v4).drew.cell? ⟨g, so + 5, none⟩ = some u5 ∧ (((((w.setCell ⟨g, so, none⟩ v0).setCell ⟨g, so + 1, none⟩ v1).setCell ⟨g, so + 2, none⟩ v2).setCell ⟨g, so + 3, none⟩ v3).setCell ⟨g, so + 4, none⟩ v4).drew.frozen? ⟨g, so + 5, none⟩ = false ∧
    ((((((w.setCell ⟨g, so, none⟩ v0).setCell ⟨g, so + 1, none⟩ v1).setCell ⟨g, so + 2, none⟩ v2).setCell ⟨g, so + 3, none⟩ v3).setCell ⟨g, so + 4, none⟩ v4).setCell ⟨g, so + 5, none⟩ v5).drew.cell? ⟨g, so + 6, none⟩ = some u6 ∧ ((((((w.setCell ⟨g, so, none⟩ v0).setCell ⟨g, so + 1, none⟩ v1).setCell ⟨g, so + 2, none⟩ v2).setCell ⟨g, so + 3, none⟩ v3).setCell ⟨g, so + 4, none⟩ v4).setCell ⟨g, so + 5, none⟩ v5).drew.frozen? ⟨g, so + 6, none⟩ = false ∧
    (((((((w.setCell ⟨g, so, none⟩ v0).setCell ⟨g, so + 1, none⟩ v1).setCell ⟨g, so + 2, none⟩ v2).setCell ⟨g, so + 3, none⟩ v3).setCell ⟨g, so + 4, none⟩ v4).setCell ⟨g, so + 5, none⟩ v5).setCell ⟨g, so + 6, none⟩ v6).drew.cell? ⟨g, so + 7, none⟩ = some u7 ∧ (((((((w.setCell ⟨g, so, none⟩ v0).setCell ⟨g, so + 1, none⟩ v1).setCell ⟨g, so + 2, none⟩ v2).setCell ⟨g, so + 3, none⟩ v3).setCell ⟨g, so + 4, none⟩ v4).setCell ⟨g, so + 5, none⟩ v5).setCell ⟨g, so + 6, none⟩ v6).drew.frozen? ⟨g, so + 7, none⟩ = false ∧ ((((((((w.setCell ⟨g, so, none⟩ v0).setCell ⟨g, so + 1, none⟩ v1).setCell ⟨g, so + 2, none⟩ v2).setCell ⟨g, so + 3, none⟩ v3).setCell ⟨g, so + 4, none⟩ v4).setCell ⟨g, so + 5, none⟩ v5).setCell ⟨g, so + 6, none⟩ v6).setCell ⟨g, so + 7, none⟩ v7) = w.setCells g so [v0, v1, v2, v3, v4, v5, v6, v7] := by
  obtain ⟨q0, q1, q2, q3, q4, q5, q6, q7⟩ := hu
  have c0 : w.cell? ⟨g, so, none⟩ = some u0 := cell_of_block b0 (q0)
  have f0 : w.frozen? ⟨g, so, none⟩ = false := frozen_of_block b0
  have b1 := setCell_block (i := so) v0 b0
  have c1 : (w.setCell ⟨g, so, none⟩ v0).cell? ⟨g, so + 1, none⟩ = some u1 := cell_of_block b1 (by rw [Array.getElem?_setIfInBounds_ne (by omega)]; exact q1)
  have f1 : (w.setCell ⟨g, so, none⟩ v0).frozen? ⟨g, so + 1, none⟩ = false := frozen_of_block b1
  have b2 := setCell_block (i := so + 1) v1 b1
  have c2 : ((w.setCell ⟨g, so, none⟩ v0).setCell ⟨g, so + 1, none⟩ v1).cell? ⟨g, so + 2, none⟩ = some u2 := cell_of_block b2 (by rw [Array.getElem?_setIfInBounds_ne (by omega), Array.getElem?_setIfInBounds_ne (by omega)]; exact q2)
  have f2 : ((w.setCell ⟨g, so, none⟩ v0).setCell ⟨g, so + 1, none⟩ v1).frozen? ⟨g, so + 2, none⟩ = false := frozen_of_block b2
  have b3 := setCell_block (i := so + 2) v2 b2
  have c3 : (((w.setCell ⟨g, so, none⟩ v0).setCell ⟨g, so + 1, none⟩ v1).setCell ⟨g, so + 2, none⟩ v2).cell? ⟨g, so + 3, none⟩ = some u3 := cell_of_block b3 (by rw [Array.getElem?_setIfInBounds_ne (by omega), Array.getElem?_setIfInBounds_ne (by omega), Array.getElem?_setIfInBounds_ne (by omega)]; exact q3)
  have f3 : (((w.setCell ⟨g, so, none⟩ v0).setCell ⟨g, so + 1, none⟩ v1).setCell ⟨g, so + 2, none⟩ v2).frozen? ⟨g, so + 3, none⟩ = false := frozen_of_block b3
  have b4 := setCell_block (i := so + 3) v3 b3
  have c4 : ((((w.setCell ⟨g, so, none⟩ v0).setCell ⟨g, so + 1, none⟩ v1).setCell ⟨g, so + 2, none⟩ v2).setCell ⟨g, so + 3, none⟩ v3).cell? ⟨g, so + 4, none⟩ = some u4 := cell_of_block b4 (by rw [Array.getElem?_setIfInBounds_ne (by omega), Array.getElem?_setIfInBounds_ne (by omega), Array.getElem?_setIfInBounds_ne (by omega), Array.getElem?_setIfInBounds_ne (by omega)]; exact q4)
  have f4 : ((((w.setCell ⟨g, so, none⟩ v0).setCell ⟨g, so + 1, none⟩ v1).setCell ⟨g, so + 2, none⟩ v2).setCell ⟨g, so + 3, none⟩ v3).frozen? ⟨g, so + 4, none⟩ = false := frozen_of_block b4
  have b5 := setCell_block (i := so + 4) v4 b4
  have c5 : (((((w.setCell ⟨g, so, none⟩ v0).setCell ⟨g, so + 1, none⟩ v1).setCell ⟨g, so + 2, none⟩ v2).setCell ⟨g, so + 3, none⟩ v3).setCell ⟨g, so + 4, none⟩ v4).cell? ⟨g, so + 5, none⟩ = some u5 := cell_of_block b5 (by rw [Array.getElem?_setIfInBounds_ne (by omega), Array.getElem?_setIfInBounds_ne (by omega), Array.getElem?_setIfInBounds_ne (by omega), Array.getElem?_setIfInBounds_ne (by omega), Array.getElem?_setIfInBounds_ne (by omega)]; exact q5)
  have f5 : (((((w.setCell ⟨g, so, none⟩ v0).setCell ⟨g, so + 1, none⟩ v1).setCell ⟨g, so + 2, none⟩ v2).setCell ⟨g, so + 3, none⟩ v3).setCell ⟨g, so + 4, none⟩ v4).frozen? ⟨g, so + 5, none⟩ = false := frozen_of_block b5
  have b6 := setCell_block (i := so + 5) v5 b5
  have c6 : ((((((w.setCell ⟨g, so, none⟩ v0).setCell ⟨g, so + 1, none⟩ v1).setCell ⟨g, so + 2, none⟩ v2).setCell ⟨g, so + 3, none⟩ v3).setCell ⟨g, so + 4, none⟩ v4).setCell ⟨g, so + 5, none⟩ v5).cell? ⟨g, so + 6, none⟩ = some u6 := cell_of_block b6 (by rw [Array.getElem?_setIfInBounds_ne (by omega), Array.getElem?_setIfInBounds_ne (by omega), Array.getElem?_setIfInBounds_ne (by omega), Array.getElem?_setIfInBounds_ne (by omega), Array.getElem?_setIfInBounds_ne (by omega), Array.getElem?_setIfInBounds_ne (by omega)]; exact q6)
  have f6 : ((((((w.setCell ⟨g, so, none⟩ v0).setCell ⟨g, so + 1, none⟩ v1).setCell ⟨g, so + 2, none⟩ v2).setCell ⟨g, so + 3, none⟩ v3).setCell ⟨g, so + 4, none⟩ v4).setCell ⟨g, so + 5, none⟩ v5).frozen? ⟨g, so + 6, none⟩ = false := frozen_of_block b6
  have b7 := setCell_block (i := so + 6) v6 b6
  have c7 : (((((((w.setCell ⟨g, so, none⟩ v0).setCell ⟨g, so + 1, none⟩ v1).setCell ⟨g, so + 2, none⟩ v2).setCell ⟨g, so + 3, none⟩ v3).setCell ⟨g, so + 4, none⟩ v4).setCell ⟨g, so + 5, none⟩ v5).setCell ⟨g, so + 6, none⟩ v6).cell? ⟨g, so + 7, none⟩ = some u7 := cell_of_block b7 (by rw [Array.getElem?_setIfInBounds_ne (by omega), Array.getElem?_setIfInBounds_ne (by omega), Array.getElem?_setIfInBounds_ne (by omega), Array.getElem?_setIfInBounds_ne (by omega), Array.getElem?_setIfInBounds_ne (by omega), Array.getElem?_setIfInBounds_ne (by omega), Array.getElem?_setIfInBounds_ne (by omega)]; exact q7)
  have f7 : (((((((w.setCell ⟨g, so, none⟩ v0).setCell ⟨g, so + 1, none⟩ v1).setCell ⟨g, so + 2, none⟩ v2).setCell ⟨g, so + 3, none⟩ v3).setCell ⟨g, so + 4, none⟩ v4).setCell ⟨g, so + 5, none⟩ v5).setCell ⟨g, so + 6, none⟩ v6).frozen? ⟨g, so + 7, none⟩ = false := frozen_of_block b7
  simp only [drew_cell, drew_frozen]
  refine ⟨c0, f0, c1, f1, c2, f2, c3, f3, c4, f4, c5, f5, c6, f6, c7, f7, ?_⟩
  simp only [setCells_cons, setCells_nil, Nat.add_assoc, Nat.reduceAdd]
/-- The block of a seat. -/
theorem seatBlock {w : World} {g so : Nat} {s : Seat} {K : List Nat} (H : Here seatR w g so s K) : ∃ c T v5 v6 v7, w.heap[g]? = some (.cells c T (0, 0)) ∧ so + 8 ≤ c.size ∧ seatR.own w [.string s.page, .int .i64 s.state, .int .i64 s.epoch, .int .i64 s.peer, .string s.letter, v5, v6, v7] s K ∧
    c[so]? = some (.string s.page) ∧ c[so + 1]? = some (.int .i64 s.state) ∧ c[so + 2]? = some (.int .i64 s.epoch) ∧ c[so + 3]? = some (.int .i64 s.peer) ∧ c[so + 4]? = some (.string s.letter) ∧ c[so + 5]? = some v5 ∧ c[so + 6]? = some v6 ∧ c[so + 7]? = some v7 := by
  obtain ⟨c, T, h1, h2⟩ := H.box
  obtain ⟨v5, v6, v7, F5, F6, F7, e, h5, h6, h7, h8⟩ := id h2
  have hl := seatR.len h2
  simp only [List.length_take, List.length_drop, Array.length_toList] at hl
  have h8' : seatR.n = 8 := rfl
  have hsz : so + 8 ≤ c.size := by omega
  have hget : ∀ j : Nat, j < 8 → c[so + j]? = ((c.toList.drop so).take 8)[j]? := fun j hj => by
    rw [take_drop_get hj]; simp
  refine ⟨c, T, v5, v6, v7, h1, hsz, ?_, ?_⟩
  · rw [← e]; exact h2
  · have e' : (c.toList.drop so).take 8 = _ := e
    have := hget 0 (by omega)
    rw [Nat.add_zero] at this
    refine ⟨by rw [this, e']; rfl, by rw [hget 1 (by omega), e']; rfl, by rw [hget 2 (by omega), e']; rfl, by rw [hget 3 (by omega), e']; rfl, by rw [hget 4 (by omega), e']; rfl, by rw [hget 5 (by omega), e']; rfl, by rw [hget 6 (by omega), e']; rfl, by rw [hget 7 (by omega), e']; rfl⟩
end Go.Proofs.Ytkoopagjjmdodaa
