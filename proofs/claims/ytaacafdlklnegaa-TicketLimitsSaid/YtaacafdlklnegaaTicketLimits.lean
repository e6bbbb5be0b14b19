/-
  TicketLimits: a page has at most 64 open requests; for all names, numbers and closings.
-/
import Derived.Test.YtaacafdlklnegaaLaw
import Derived.Test.YtaacafdlklnegaaOpen
import Derived.Test.YtaacafdlklnegaaTikg
namespace Go.Proofs.Ytaacafdlklnegaa
set_option linter.unusedVariables false
open Go.ChangeShapes Go.WideShapes Go.ChangeAt Go.RowKit
open Go.ChangeMaps (open_string shut_string)

def reqR : ByteArray := ⟨#[114]⟩
def askedE (page : ByteArray) (j : Nat) : Entry := ⟨page, (j + 1 : Nat), reqR, [], 0, false, false⟩
def shutE (page : ByteArray) (j : Nat) : Entry := ⟨page, (j + 1 : Nat), reqR, [], 0, false, true⟩
/-- The state behind i requests. -/
def asked (page : ByteArray) (i : Nat) : State := ⟨[⟨page, 1⟩], (List.range i).map (askedE page), List.replicate i reqR⟩
def shut (page : ByteArray) (i k : Nat) : State := (asked page i).setE k (shutE page k)

theorem asked_len (page : ByteArray) (i : Nat) : (asked page i).entries.length = i := by simp [asked]
theorem shut_len (page : ByteArray) (i k : Nat) : (shut page i k).entries.length = i := by simp [shut, State.setE, asked]
theorem asked_nums (page : ByteArray) (i : Nat) : Nums page 0 (asked page i).entries := by
  intro j hj
  simp [asked, askedE]
theorem asked_get (page : ByteArray) (i j : Nat) (h : j < i) : (asked page i).entries.getD j noEntry = askedE page j := by
  simp [asked, h]
theorem shut_get (page : ByteArray) (i k j : Nat) (h : j < i) : (shut page i k).entries.getD j noEntry = if k = j then shutE page k else askedE page j := by
  rw [show (shut page i k).entries = (asked page i).entries.set k (shutE page k) from rfl, List.getD_eq_getElem?_getD, List.getElem?_set]
  by_cases hk : k = j
  · rw [if_pos hk, if_pos hk, if_pos (by rw [asked_len]; omega)]; rfl
  · rw [if_neg hk, if_neg hk, ← List.getD_eq_getElem?_getD]; exact asked_get page i j h
theorem shut_nums (page : ByteArray) (i k : Nat) : Nums page 0 (shut page i k).entries := by
  refine (asked_nums page i).set k _ (fun hi => ?_)
  simp [asked, askedE, shutE]
theorem asked_opens (page : ByteArray) (i : Nat) : (opens (asked page i) page).length = i := by
  rw [opens_length]
  have : (asked page i).entries.countP (isOpen page) = (asked page i).entries.length := by
    rw [List.countP_eq_length]
    intro x hx
    simp only [asked, List.mem_map] at hx
    obtain ⟨j, _, rfl⟩ := hx
    simp [isOpen, askedE]
  rw [this, asked_len]
theorem shut_opens (page : ByteArray) (i k : Nat) (h : k < i) : (opens (shut page i k) page).length = i - 1 := by
  have ha := asked_opens page i
  rw [opens_length] at ha ⊢
  rw [show (shut page i k).entries = (asked page i).entries.set k (shutE page k) from rfl, List.countP_set (by rw [asked_len]; exact h), ha]
  have : ∀ hk : k < (asked page i).entries.length, isOpen page ((asked page i).entries[k]'hk) = true := by intro hk; simp [asked, isOpen, askedE]
  rw [if_pos (this _), if_neg (by simp [isOpen, shutE])]
  omega
theorem asked_find (page : ByteArray) (i : Nat) (n : Int) : findE page n (asked page i).entries 0 = if 1 ≤ n ∧ n ≤ i then some (n - 1).toNat else none := by
  rw [findE_nums page n _ 0 (asked_nums page i), asked_len]
  simp
theorem shut_find (page : ByteArray) (i k : Nat) (n : Int) : findE page n (shut page i k).entries 0 = if 1 ≤ n ∧ n ≤ i then some (n - 1).toNat else none := by
  rw [findE_nums page n _ 0 (shut_nums page i k), shut_len]
  simp

theorem ask_more (page : ByteArray) (i : Nat) (h : i < 64) : askM (asked page i) page 1 ((i + 1 : Nat) : Int) reqR = (0, asked page (i + 1)) := by
  unfold askM
  rw [show servesB (asked page i) page 1 = true from serves_one _ _ _ _, if_neg (by simp), if_neg (by omega), asked_find, if_neg (by omega)]
  simp only
  rw [asked_opens, if_neg (by omega)]
  congr 1
  simp [asked, List.range_succ, askedE, List.replicate_succ']
theorem ask_full (page : ByteArray) (n : Int) (h : 64 < n) : askM (asked page 64) page 1 n reqR = (5, asked page 64) := by
  unfold askM
  rw [show servesB (asked page 64) page 1 = true from serves_one _ _ _ _, if_neg (by simp), if_neg (by omega), asked_find, if_neg (by omega)]
  simp only
  rw [asked_opens, if_pos (by omega)]
theorem ask_again (page : ByteArray) (n : Int) (h : 1 ≤ n ∧ n ≤ 64) (req : ByteArray) : askM (asked page 64) page 1 n req = (if (reqR.toList == req.toList) = true then 0 else 9, asked page 64) := by
  unfold askM
  rw [show servesB (asked page 64) page 1 = true from serves_one _ _ _ _, if_neg (by simp), if_neg (by omega), asked_find, if_pos (by omega)]
  simp only
  rw [asked_get _ _ _ (by omega), show (askedE page (n - 1).toNat).request = reqR from rfl]
  by_cases hr : (reqR.toList == req.toList) = true
  · rw [if_pos hr, if_pos hr]
  · rw [if_neg hr, if_neg hr]
theorem close_one (page : ByteArray) (k : Nat) (h : k < 64) : closeM (asked page 64) page 1 ((k + 1 : Nat) : Int) = (0, shut page 64 k) := by
  have ho : openM (asked page 64) page 1 ((k + 1 : Nat) : Int) = (some k, 0) := by
    unfold openM
    rw [show servesB (asked page 64) page 1 = true from serves_one _ _ _ _, if_neg (by simp), asked_find, if_pos (by omega)]
    simp only
    rw [show (((k + 1 : Nat) : Int) - 1).toNat = k from by omega, asked_get _ _ _ h, if_neg (by simp [askedE])]
  unfold closeM
  rw [ho]
  simp only
  rw [asked_get _ _ _ h]
  rfl
theorem close_two (page : ByteArray) (k : Nat) (h : k < 64) : closeM (shut page 64 k) page 1 ((k + 1 : Nat) : Int) = (6, shut page 64 k) := by
  have ho : openM (shut page 64 k) page 1 ((k + 1 : Nat) : Int) = (none, 6) := by
    unfold openM
    rw [show servesB (shut page 64 k) page 1 = true from serves_one _ _ _ _, if_neg (by simp), shut_find, if_pos (by omega)]
    simp only
    rw [show (((k + 1 : Nat) : Int) - 1).toNat = k from by omega, shut_get _ _ _ _ h, if_pos rfl, if_pos (by rfl)]
  unfold closeM
  rw [ho]
theorem ask_shut (page : ByteArray) (k : Nat) (h : k < 64) (n : Int) (hn : 1 ≤ n ∧ n ≤ 64) : askM (shut page 64 k) page 1 n reqR = (0, shut page 64 k) := by
  unfold askM
  rw [show servesB (shut page 64 k) page 1 = true from serves_one _ _ _ _, if_neg (by simp), if_neg (by omega), shut_find, if_pos (by omega)]
  simp only
  rw [shut_get _ _ _ _ (by omega), if_pos]
  split <;> simp [shutE, askedE]
theorem ask_low (s : State) (page : ByteArray) (hs : servesB s page 1 = true) (n : Int) (hn : n < 1) (req : ByteArray) : askM s page 1 n req = (1, s) := by
  unfold askM
  rw [hs, if_neg (by simp), if_pos hn]
def shutMore (page : ByteArray) (k : Nat) (n : Int) : State := { shut page 64 k with entries := (shut page 64 k).entries ++ [⟨page, n, reqR, [], 0, false, false⟩], sent := (shut page 64 k).sent ++ [reqR] }
theorem ask_new (page : ByteArray) (k : Nat) (h : k < 64) (n : Int) (hn : 64 < n) : askM (shut page 64 k) page 1 n reqR = (0, shutMore page k n) := by
  unfold askM
  rw [show servesB (shut page 64 k) page 1 = true from serves_one _ _ _ _, if_neg (by simp), if_neg (by omega), shut_find, if_neg (by omega)]
  simp only
  rw [shut_opens _ _ _ h, if_neg (by omega)]
  rfl
theorem shutMore_opens (page : ByteArray) (k : Nat) (h : k < 64) (n : Int) : (opens (shutMore page k n) page).length = 64 := by
  have hs := shut_opens page 64 k h
  rw [opens_length] at hs ⊢
  show List.countP (isOpen page) ((shut page 64 k).entries ++ [⟨page, n, reqR, [], 0, false, false⟩]) = 64
  rw [List.countP_append, hs]
  simp [isOpen]
theorem shutMore_sent (page : ByteArray) (k : Nat) (n : Int) : (shutMore page k n).sent.length = 65 := by
  simp [shutMore, shut, State.setE, asked]
theorem openL_length (s : State) (page : ByteArray) : (openL s page).length = (opens s page).length := sorted_length _

theorem asked_fewE (page : ByteArray) (i : Nat) (h : i ≤ 64) : Few (asked page i).entries.length := ⟨by rw [asked_len]; omega⟩
theorem asked_fewS (page : ByteArray) (i : Nat) (h : i ≤ 64) : Few (asked page i).sent.length := ⟨by simp [asked]; omega⟩
theorem shut_fewE (page : ByteArray) (k : Nat) : Few (shut page 64 k).entries.length := ⟨by rw [shut_len]; omega⟩
theorem shut_fewS (page : ByteArray) (k : Nat) : Few (shut page 64 k).sent.length := ⟨by simp [shut, State.setE, asked]⟩
theorem asked_all (page : ByteArray) (i : Nat) : ∀ x ∈ (asked page i).entries, Few x.pieces.length ∧ 0 ≤ x.acked ∧ Few x.acked.toNat := by
  intro x hx
  simp only [asked, List.mem_map] at hx
  obtain ⟨j, _, rfl⟩ := hx
  exact ⟨⟨by simp [askedE]⟩, by simp [askedE], ⟨by simp [askedE]⟩⟩
theorem shut_all (page : ByteArray) (k : Nat) : ∀ x ∈ (shut page 64 k).entries, Few x.pieces.length ∧ 0 ≤ x.acked ∧ Few x.acked.toNat := by
  intro x hx
  rcases List.mem_or_eq_of_mem_set hx with h | h
  · exact asked_all page 64 x h
  · rw [h]; exact ⟨⟨by simp [shutE]⟩, by simp [shutE], ⟨by simp [shutE]⟩⟩
theorem shutMore_fewE (page : ByteArray) (k : Nat) (n : Int) : Few (shutMore page k n).entries.length := ⟨by simp [shutMore, shut_len]⟩

set_option maxHeartbeats 800000 in
set_option maxRecDepth 100000 in
theorem ticketLimits_long (page : ByteArray) (n c : Int) (w : World) (hs : page.size ≤ maxLen) (h3 : 300 < page.size) :
    Calls Try.prog 3 #[.string page, .int .i64 n, .int .u8 c] w fun e w' => e = .returned (.bool true) ∧ Below w.heap.size w w' := by
  have hd3 : decide ((300 : Int) < (page.size : Int)) = true := by simp; omega
  have h1 : (page.size : Int) ≤ 9223372036854775807 := by unfold maxLen at hs; omega
  clear hs h3
  go_enter Try.func3, Try.ntmps3
  go_wp2_with fail
  refine (awake_any w).mono ?_
  rintro e w1 ⟨rfl, hc1⟩
  go_wp2_with fail
  refine (awake_any w1).mono ?_
  rintro e w2 ⟨rfl, hc2⟩
  go_wp2_with fail
  go_ret
  exact ⟨rfl, (hc1.trans' hc2).below (Nat.le_refl _) (fun _ h => h.elim)⟩

set_option maxHeartbeats 800000 in
set_option maxRecDepth 100000 in
theorem ticketLimits_bad (page : ByteArray) (n c : Int) (w : World) (hs : page.size ≤ maxLen) (h3 : ¬ 300 < page.size) (hb : ¬ (1 ≤ page.size ∧ page.size ≤ 200)) :
    Calls Try.prog 3 #[.string page, .int .i64 n, .int .u8 c] w fun e w' => e = .returned (.bool true) ∧ Below w.heap.size w w' := by
  have hd3 : decide ((300 : Int) < (page.size : Int)) = false := by simp; omega
  have h1 : (page.size : Int) ≤ 9223372036854775807 := by unfold maxLen at hs; omega
  have HSZ : Hid (page.size ≤ 9223372036854775807) := Lib.hid (by unfold maxLen at hs; omega)
  have HBAD := Lib.hid hb
  have hcase : page.toList = [] ∨ 200 < page.size := by
    by_cases h0 : page.size = 0
    · left
      have : page.toList.length = 0 := by rw [ByteArray.toList_eq]; simpa using h0
      exact List.eq_nil_of_length_eq_zero this
    · right; omega
  have HC := Lib.hid hcase
  clear hs h3 hb hcase
  go_enter Try.func3, Try.ntmps3
  go_wp2_with fail
  refine (awake_any w).mono ?_
  rintro e w1 ⟨rfl, hc1⟩
  have H1 := (Own.made (A := stateR) w1 27 _ newState (newState_own w1)).from hc1
  go_wp2_with fail
  refine (claim_any _ w1.heap.size 0 newState [] page 1 H1.here HSZ.out ⟨by decide⟩).mono ?_
  rintro e w2 ⟨rfl, hp⟩
  rw [claim_bad _ _ _ HBAD.out] at hp ⊢
  obtain ⟨F2, H2⟩ := hp.own H1
  obtain ⟨v0, v1, v2, c0, c1, c2, F0, F1, F2', h0, -⟩ := stateCells H2.here
  obtain ⟨xs, Fs, hopen⟩ := Rep.opened h0
  obtain ⟨a, cap, rfl, hc1', hc2'⟩ := hopen.val
  clear c1 c2 h0 hopen H1
  rcases HC.out with h0 | h0
  · have h0b : page.toList.isEmpty = true := by rw [h0]; rfl
    go_wp2_with fail
    go_ret
    exact ⟨rfl, H2.chg.below (Nat.le_refl _) (fun _ h => h.elim)⟩
  · have hd4 : decide ((200 : Int) < (page.size : Int)) = true := by simp; omega
    clear h0
    go_wp2_with fail
    all_goals (go_ret; exact ⟨rfl, H2.chg.below (Nat.le_refl _) (fun _ h => h.elim)⟩)

set_option maxHeartbeats 3200000 in
set_option maxRecDepth 100000 in
theorem ticketLimits_ok (page : ByteArray) (n c : Int) (w : World) (hs : page.size ≤ maxLen) (hb : 1 ≤ page.size ∧ page.size ≤ 200) (hc : 0 ≤ c ∧ c ≤ 255) :
    Calls Try.prog 3 #[.string page, .int .i64 n, .int .u8 c] w fun e w' => e = .returned (.bool true) ∧ Below w.heap.size w w' := by
  have hd3 : decide ((300 : Int) < (page.size : Int)) = false := by simp; omega
  have hd2 : decide ((200 : Int) < (page.size : Int)) = false := by simp; omega
  have h1 : (page.size : Int) ≤ 9223372036854775807 := by unfold maxLen at hs; omega
  have HSZ : Hid (page.size ≤ 9223372036854775807) := Lib.hid (by unfold maxLen at hs; omega)
  have HB := Lib.hid hb
  have h0 : ¬ page.toList = [] := by
    intro he
    rw [ByteArray.toList_eq] at he
    have h2 : page.data.toList.length = page.size := by simp
    rw [he] at h2
    have := hb.1
    simp at h2; omega
  have h0b : page.toList.isEmpty = false := by
    cases hl : page.toList with
    | nil => exact absurd hl h0
    | cons _ _ => rfl
  clear hs hb
  go_enter Try.func3, Try.ntmps3
  go_wp2_with fail
  refine (awake_any w).mono ?_
  rintro e w1 ⟨rfl, hc1⟩
  have H1 := (Own.made (A := stateR) w1 27 _ newState (newState_own w1)).from hc1
  go_wp2_with fail
  refine (claim_any _ w1.heap.size 0 newState [] page 1 H1.here HSZ.out ⟨by decide⟩).mono ?_
  rintro e w2 ⟨rfl, hp⟩
  rw [claim_first _ _ HB.out (by decide)] at hp ⊢
  obtain ⟨F2, H2⟩ := hp.own H1
  clear H1
  go_wp2_with fail
  refine (claim_any _ w1.heap.size 0 _ F2 page 0 H2.here HSZ.out ⟨by show 1 < 1000000000; decide⟩).mono ?_
  rintro e w3 ⟨rfl, hp⟩
  rw [claim_zero _ _ _ (by decide)] at hp ⊢
  obtain ⟨F3, H3⟩ := hp.own H2
  clear H2
  generalize w1.heap.size = b at *
  go_wp2_with fail
  go_loopw [9] (fun i wr => ∃ (k : Nat) (F : List Nat), k ≤ 64 ∧ i = .int .i64 ((k : Int) + 1) ∧ Own stateR w wr b 0 (asked page k) F) (fun i _ => 65 - (intOf i).toNat)
  case atStart => exact ⟨0, F3, by omega, rfl, H3⟩
  case round =>
    obtain ⟨k, F, hk, rfl, HK⟩ := hrel
    by_cases hlt : k < 64
    · have hd : decide ((k : Int) + 1 ≤ 64) = true := by simp; omega
      have hw : IntKind.i64.wrap ((k : Int) + 1 + 1) = (k : Int) + 1 + 1 := IntWalk.i64_in _ (by omega)
      have HLT := Lib.hid hlt
      clear hlt hk H3
      go_wp2_with fail
      refine (ask_any _ b 0 _ F page 1 ((k : Int) + 1) reqR HK.here (asked_fewE _ _ (by have := HLT.out; omega)) (asked_fewS _ _ (by have := HLT.out; omega))).mono ?_
      rintro e w4 ⟨rfl, hp⟩
      rw [show (k : Int) + 1 = ((k + 1 : Nat) : Int) from rfl, ask_more _ _ HLT.out] at hp ⊢
      obtain ⟨F4, H4⟩ := hp.own HK
      go_wp2_with fail
      go_roundw
      case rel => exact ⟨k + 1, F4, HLT.out, by go_num, H4⟩
      case measure => have := HLT.out; simp [intOf]; omega
    · obtain rfl : k = 64 := by omega
      have hq : ∃ q : Nat, q < 64 ∧ c.tmod 64 = (q : Int) := ⟨(c.tmod 64).toNat, by rw [Int.tmod_eq_emod_of_nonneg hc.1]; omega, by rw [Int.tmod_eq_emod_of_nonneg hc.1]; omega⟩
      obtain ⟨q, hq1, hq2⟩ := hq
      have HQ := Lib.hid hq1
      have hwc : IntKind.i64.wrap c = c := IntWalk.i64_in _ (by omega)
      have hwq : IntKind.i64.wrap (1 + (q : Int)) = 1 + (q : Int) := IntWalk.i64_in _ (by omega)
      have hwq2 : IntKind.i64.wrap (q : Int) = (q : Int) := IntWalk.i64_in _ (by omega)
      clear hq1 H3 hk hlt
      go_wp2_with fail
      refine (ask_any _ b 0 _ F page 1 1000 reqR HK.here (asked_fewE _ _ (by decide)) (asked_fewS _ _ (by decide))).mono ?_
      rintro e w4 ⟨rfl, hp⟩
      rw [ask_full _ _ (by decide)] at hp ⊢
      obtain ⟨F4, H4⟩ := hp.own HK
      clear HK hp
      go_wp2_with fail
      refine (ask_any _ b 0 _ F4 page 1 5 reqR H4.here (asked_fewE _ _ (by decide)) (asked_fewS _ _ (by decide))).mono ?_
      rintro e w5 ⟨rfl, hp⟩
      rw [ask_again _ _ (by decide), if_pos (by rw [beq_self_eq_true])] at hp ⊢
      obtain ⟨F5, H5⟩ := hp.own H4
      clear H4 hp
      go_wp2_with fail
      refine (ask_any _ b 0 _ F5 page 1 5 ⟨#[113]⟩ H5.here (asked_fewE _ _ (by decide)) (asked_fewS _ _ (by decide))).mono ?_
      rintro e w6 ⟨rfl, hp⟩
      rw [ask_again _ _ (by decide), if_neg (by rw [ByteArray.toList_eq, ByteArray.toList_eq]; decide)] at hp ⊢
      obtain ⟨F6, H6⟩ := hp.own H5
      clear H5 hp
      go_wp2_with fail
      refine (close_any _ b 0 _ F6 page 1 (1 + (q : Int)) H6.here (asked_all _ _)).mono ?_
      rintro e w7 ⟨rfl, hp⟩
      have HQE : Hid ((1 : Int) + (q : Int) = ((q + 1 : Nat) : Int)) := Lib.hid (by omega)
      rw [HQE.out, close_one _ _ HQ.out] at hp
      rw [show (closeM (asked page 64) page 1 (1 + (q : Int))).1 = 0 from by rw [HQE.out, close_one _ _ HQ.out]]
      obtain ⟨F7, H7⟩ := hp.own H6
      clear H6 hp
      go_wp2_with fail
      refine (close_any _ b 0 _ F7 page 1 (1 + (q : Int)) H7.here (shut_all _ _)).mono ?_
      rintro e w8 ⟨rfl, hp⟩
      rw [HQE.out, close_two _ _ HQ.out] at hp
      rw [show (closeM (shut page 64 q) page 1 (1 + (q : Int))).1 = 6 from by rw [HQE.out, close_two _ _ HQ.out]]
      obtain ⟨F8, H8⟩ := hp.own H7
      clear H7 hp
      go_wp2_with fail
      refine (ask_any _ b 0 _ F8 page 1 (1 + (q : Int)) reqR H8.here (shut_fewE _ _) (shut_fewS _ _)).mono ?_
      rintro e w9 ⟨rfl, hp⟩
      have hqr : 1 ≤ 1 + (q : Int) ∧ 1 + (q : Int) ≤ 64 := by have := HQ.out; omega
      rw [ask_shut _ _ HQ.out _ hqr] at hp ⊢
      obtain ⟨F9, H9⟩ := hp.own H8
      clear H8 hp hqr HQE
      generalize 1 + (q : Int) = kk at *
      by_cases hn1 : n < 1
      · have hdn : decide (n < 1) = true := by simpa using hn1
        have HN := Lib.hid hn1
        clear hn1
        go_wp2_with fail
        refine (ask_any _ b 0 _ F9 page 1 n reqR H9.here (shut_fewE _ _) (shut_fewS _ _)).mono ?_
        rintro e w10 ⟨rfl, hp⟩
        rw [ask_low (shut page 64 q) page (serves_one _ _ _ _) _ HN.out] at hp ⊢
        obtain ⟨F10, H10⟩ := hp.own H9
        go_wp2_with fail
        go_ret
        exact ⟨rfl, H10.chg.below (Nat.le_refl _) (fun _ h => h.elim)⟩
      · have hdn : decide (n < 1) = false := by simpa using hn1
        by_cases hn2 : n ≤ 64
        · have hdn2 : decide (n ≤ 64) = true := by simpa using hn2
          have HN : Hid (1 ≤ n ∧ n ≤ 64) := Lib.hid (by omega)
          clear hn1 hn2
          go_wp2_with fail
          refine (ask_any _ b 0 _ F9 page 1 n reqR H9.here (shut_fewE _ _) (shut_fewS _ _)).mono ?_
          rintro e w10 ⟨rfl, hp⟩
          rw [ask_shut _ _ HQ.out _ HN.out] at hp ⊢
          obtain ⟨F10, H10⟩ := hp.own H9
          go_wp2_with fail
          refine (openNums_any _ b 0 _ F10 page H10.here (shut_fewE _ _)).mono ?_
          rintro e w11 ⟨v, rfl, hrow, -, hch⟩
          obtain ⟨pa, pc, rfl, -, -⟩ := hrow.slice
          have H11 := H10.still hch
          rw [openL_length, shut_opens _ _ _ HQ.out]
          clear hrow H9 H10 hch
          go_wp2_with fail
          go_ret
          exact ⟨rfl, H11.chg.below (Nat.le_refl _) (fun _ h => h.elim)⟩
        · have hdn2 : decide (n ≤ 64) = false := by simpa using hn2
          have HN : Hid (64 < n) := Lib.hid (by omega)
          clear hn1 hn2
          go_wp2_with fail
          refine (ask_any _ b 0 _ F9 page 1 n reqR H9.here (shut_fewE _ _) (shut_fewS _ _)).mono ?_
          rintro e w10 ⟨rfl, hp⟩
          rw [ask_new _ _ HQ.out _ HN.out] at hp ⊢
          obtain ⟨F10, H10⟩ := hp.own H9
          go_wp2_with fail
          refine (openNums_any _ b 0 _ F10 page H10.here (shutMore_fewE _ _ _)).mono ?_
          rintro e w11 ⟨v, rfl, hrow, -, hch⟩
          obtain ⟨pa, pc, rfl, -, -⟩ := hrow.slice
          have H11 := H10.still hch
          rw [openL_length, shutMore_opens _ _ HQ.out]
          obtain ⟨v0, v1, v2, c0, c1, c2, F0, F1, F2', h0', h1', h2, -⟩ := stateCells H11.here
          obtain ⟨xs, Fs, hopen⟩ := Rep.opened h2
          obtain ⟨a, cap, rfl, hc1', hc2'⟩ := hopen.val
          rw [shutMore_sent] at c2
          clear hrow H9 H10 hch c0 c1 h0' h1' h2 hopen
          go_wp2_with fail
          go_ret
          exact ⟨rfl, H11.chg.below (Nat.le_refl _) (fun _ h => h.elim)⟩
theorem u8_range {n : Int} (h0 : (Lit.int IntKind.u8 n).wf = true) : 0 ≤ n ∧ n ≤ 255 := by
  have h : IntKind.u8.min ≤ n ∧ n ≤ IntKind.u8.max := by simpa [Lit.wf] using h0
  have e1 : IntKind.u8.min = 0 := by decide
  have e2 : IntKind.u8.max = 255 := by decide
  rw [e1, e2] at h; exact h
theorem ticketLimits_walk (page : ByteArray) (n c : Int) (w : World) (hs : page.size ≤ maxLen) (hc : 0 ≤ c ∧ c ≤ 255) :
    Calls Try.prog 3 #[.string page, .int .i64 n, .int .u8 c] w fun e w' => e = .returned (.bool true) ∧ Below w.heap.size w w' := by
  by_cases h3 : 300 < page.size
  · exact ticketLimits_long page n c w hs h3
  · by_cases hb : 1 ≤ page.size ∧ page.size ≤ 200
    · exact ticketLimits_ok page n c w hs hb hc
    · exact ticketLimits_bad page n c w hs h3 hb
set_option maxRecDepth 100000 in
theorem ticketLimits_lifted (os : Os) (started : os.Started) (H : Type) (enc : TypeId × Value → H) :
    ReturnsInHanded {} Try.checked os 3 .any (Rows.ticketLimitsSpec.pre6 enc Try.prog Try.f3 [] false) (Rows.ticketLimitsSpec.post enc Try.prog Try.f3 false true false false) := by
  refine law_lift (C := Try.checked) (tb := 4) started Try.own Try.laidOut (by kernel_rfl) Try.func3 (by kernel_rfl) rfl Try.underlying4 rfl ?_
    (ChangeSpec.witness6 (enc := enc) (C := Try.checked) false ⟨#[], #[.string ByteArray.empty, .int .i64 0, .int .u8 0], []⟩ 8 (by kernel_rfl) (by kernel_rfl) (by kernel_rfl) (by kernel_rfl)) ?_
  · intro ds h
    match ds, h with
    | [_, _, _], _ => rfl
  · intro W base vs ds ps hval hA hsz
    have hp : Try.f3.params.toList = [9, 3, 5] := by rw [Try.params3]
    rw [hp] at hval hA hsz
    obtain ⟨v0, vs0, d0, ds0, p0, q0, rfl, rfl, rfl, h0, r0⟩ := trodAll_cons hA
    obtain ⟨v1, vs1, d1, ds1, p1, q1, rfl, rfl, rfl, h1, r1⟩ := trodAll_cons r0
    obtain ⟨v2, vs2, d2, ds2, p2, q2, rfl, rfl, rfl, h2, r2⟩ := trodAll_cons r1
    obtain ⟨rfl, rfl, rfl⟩ := trodAll_nil r2
    obtain ⟨a0, rfl, rfl, rfl, w0⟩ := open_string Try.underlying9 (hval 0 9 v0 rfl rfl) h0
    have l0 : a0.size ≤ 140737488351232 := by have := sized_string hsz (j := 0) (t := 9) rfl rfl; simpa [reachBytes] using this
    obtain ⟨a1, rfl, rfl, rfl, w1⟩ := open_int Try.underlying3 (hval 1 3 v1 rfl rfl) h1
    obtain ⟨a2, rfl, rfl, rfl, w2⟩ := open_int Try.underlying5 (hval 2 5 v2 rfl rfl) h2
    exact ticketLimits_walk a0 a1 a2 W w0 (u8_range w2)

theorem ticketLimits_holds : Rows.TicketLimitsSaid :=
  OpenClaim.holds_of_wide 3 Try.f3 rfl rfl rfl rfl rfl rfl rfl ⟨rfl, rfl, rfl, rfl, rfl⟩ rfl rfl rfl rfl rfl (by kernel_rfl) Try.func3 (by kernel_rfl)
    (of_decide_eq_true (by kernel_rfl)) (by unfold Func.isWrapper; first | (rw [if_pos (by decide +kernel)]; kernel_rfl) | (rw [if_neg (by decide +kernel)]; exact ⟨rfl, rfl⟩))
    (fun os started H enc _ => ticketLimits_lifted os started H enc)
#print axioms ticketLimits_holds
end Go.Proofs.Ytaacafdlklnegaa
