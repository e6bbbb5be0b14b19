/-
  MigrateErrors: calls of a machine that are not possible return their errors and send nothing; for all numbers and all names.
-/
import Derived.Test.YtkoopagjjmdodaaLaw
import Derived.Test.YtkoopagjjmdodaaMigh
namespace Go.Proofs.Ytkoopagjjmdodaa
set_option linter.unusedVariables false
open Go.ChangeShapes Go.WideShapes Go.ChangeAt Go.RowKit
open Go.ChangeMaps (open_string shut_string)

theorem hand_none (w : World) (b : Nat) (id : Int) (F : List Nat) (page letter : ByteArray) (dst : Int) (H : Here hostR w b 0 (newHost id) F) (hls : letter.size ≤ 9223372036854775807) :
    Calls Try.prog 12 #[.pointer (some ⟨b, 0, none⟩), .string page, .string letter, .int .i64 dst] w fun e' w' => e' = .returned (.int .i64 6) ∧ Chg (fun _ => False) w w' :=
  hand_no w b 0 (newHost id) F page letter dst 6 (by simp [handM, newHost, findS]) (by decide) H hls
theorem withdraw_none (w : World) (b : Nat) (id : Int) (F : List Nat) (page : ByteArray) (H : Here hostR w b 0 (newHost id) F) :
    Calls Try.prog 13 #[.pointer (some ⟨b, 0, none⟩), .string page] w fun e' w' => e' = .returned (.int .i64 6) ∧ HostPost w b 0 (newHost id) F w' :=
  withdraw_any w b 0 (newHost id) F page H ⟨by show 0 < 1000000000; omega⟩

set_option maxHeartbeats 800000 in
set_option maxRecDepth 100000 in
theorem migrateErrors_neg (id dst : Int) (page : ByteArray) (w : World) (hs : page.size ≤ maxLen) (h : id < 0) (h3 : ¬ 300 < page.size) :
    Calls Try.prog 3 #[.int .i64 id, .int .i64 dst, .string page] w fun e w' => e = .returned (.bool true) ∧ Below w.heap.size w w' := by
  have hd3 : decide ((300 : Int) < (page.size : Int)) = false := by simp; omega
  have hd : decide (id < 0) = true := by simpa using h
  have h1 : (page.size : Int) ≤ 9223372036854775807 := by unfold maxLen at hs; omega
  clear hs h3
  go_enter Try.func3, Try.ntmps3
  go_wp2_with fail
  refine (awake_any w).mono ?_
  rintro e w1 ⟨rfl, hc1⟩
  go_wp2_with fail
  refine (new_any id w1).mono ?_
  rintro e w2 ⟨rfl, hc2⟩
  rw [if_pos h, if_pos h]
  clear h
  go_wp2_with fail
  go_ret
  exact ⟨rfl, ((hc1.trans' hc2).allocR _).below (Nat.le_refl _) (fun _ h => h.elim)⟩

set_option maxHeartbeats 800000 in
set_option maxRecDepth 100000 in
theorem migrateErrors_long (id dst : Int) (page : ByteArray) (w : World) (hs : page.size ≤ maxLen) (h3 : 300 < page.size) :
    Calls Try.prog 3 #[.int .i64 id, .int .i64 dst, .string page] w fun e w' => e = .returned (.bool true) ∧ Below w.heap.size w w' := by
  have hd3 : decide ((300 : Int) < (page.size : Int)) = true := by simp; omega
  have h1 : (page.size : Int) ≤ 9223372036854775807 := by unfold maxLen at hs; omega
  clear hs h3
  go_enter Try.func3, Try.ntmps3
  go_wp2_with fail
  refine (awake_any w).mono ?_
  rintro e w1 ⟨rfl, hc1⟩
  go_wp2_with fail
  refine (awake_any w1).mono ?_
  rintro e w2 ⟨rfl, hc2⟩
  go_wp2_with fail
  go_ret
  exact ⟨rfl, (hc1.trans' hc2).below (Nat.le_refl _) (fun _ h => h.elim)⟩

set_option maxHeartbeats 1600000 in
set_option maxRecDepth 100000 in
theorem migrateErrors_bad (id dst : Int) (page : ByteArray) (w : World) (hs : page.size ≤ maxLen) (h : ¬ id < 0) (h3 : ¬ 300 < page.size) (hb : ¬ (1 ≤ page.size ∧ page.size ≤ 200)) :
    Calls Try.prog 3 #[.int .i64 id, .int .i64 dst, .string page] w fun e w' => e = .returned (.bool true) ∧ Below w.heap.size w w' := by
  have hd3 : decide ((300 : Int) < (page.size : Int)) = false := by simp; omega
  have hd : decide (id < 0) = false := by simpa using h
  have h1 : (page.size : Int) ≤ 9223372036854775807 := by unfold maxLen at hs; omega
  have hsz : page.size ≤ 9223372036854775807 := by unfold maxLen at hs; omega
  have HSZ := Lib.hid hsz
  have HBAD := Lib.hid hb
  have hcase : page.toList = [] ∨ 200 < page.size := by
    by_cases h0 : page.size = 0
    · left
      have : page.toList.length = 0 := by rw [ByteArray.toList_eq]; simpa using h0
      exact List.eq_nil_of_length_eq_zero this
    · right; omega
  have HC := Lib.hid hcase
  clear hs h3 hsz hb hcase
  go_enter Try.func3, Try.ntmps3
  go_wp2_with fail
  refine (awake_any w).mono ?_
  rintro e w1 ⟨rfl, hc1⟩
  go_wp2_with fail
  refine (new_any id w1).mono ?_
  rintro e w2 ⟨rfl, hc2⟩
  rw [if_neg (by omega), if_neg (by omega)]
  have H2 := ((Own.made (A := hostR) w2 26 _ (newHost id) (newHost_own w2 id)).from hc2).from hc1
  clear h
  go_wp2_with fail
  refine (hand_none _ w2.heap.size id [] page ⟨#[120]⟩ _ H2.here (by decide)).mono ?_
  rintro e w3 ⟨rfl, hc3⟩
  have H3 := H2.still hc3
  go_wp2_with fail
  refine (withdraw_none w3 w2.heap.size id [] page H3.here).mono ?_
  rintro e w4 ⟨rfl, hp4⟩
  obtain ⟨F4, H4⟩ := hp4.own H3
  go_wp2_with fail
  refine (start_any w4 w2.heap.size 0 (newHost id) F4 page H4.here HSZ.out ⟨by show 0 < 1000000000; omega⟩).mono ?_
  rintro e w5 ⟨rfl, hp5⟩
  rw [startM_bad id page HBAD.out] at hp5 ⊢
  obtain ⟨F5, H5⟩ := hp5.own H4
  obtain ⟨vs, vo, -, k1, -, Fa, Fb, hown, -⟩ := hostCells H5.here
  obtain ⟨xs, Fs, hopen⟩ := Rep.opened hown
  obtain ⟨aa, cc, rfl, -⟩ := hopen.val
  rw [Nat.zero_add] at k1
  rcases HC.out with h0 | h0
  · have h0b : page.toList.isEmpty = true := by rw [h0]; rfl
    go_wp2_with fail
    go_ret
    exact ⟨rfl, H5.chg.below (Nat.le_refl _) (fun _ h => h.elim)⟩
  · have hd4 : decide ((200 : Int) < (page.size : Int)) = true := by simp; omega
    clear h0
    go_wp2_with fail
    all_goals (go_ret; exact ⟨rfl, H5.chg.below (Nat.le_refl _) (fun _ h => h.elim)⟩)

set_option maxHeartbeats 1600000 in
set_option maxRecDepth 100000 in
theorem migrateErrors_ok (id dst : Int) (page : ByteArray) (w : World) (hs : page.size ≤ maxLen) (h : ¬ id < 0) (hb : 1 ≤ page.size ∧ page.size ≤ 200) :
    Calls Try.prog 3 #[.int .i64 id, .int .i64 dst, .string page] w fun e w' => e = .returned (.bool true) ∧ Below w.heap.size w w' := by
  have hd3 : decide ((300 : Int) < (page.size : Int)) = false := by simp; omega
  have hd2 : decide ((200 : Int) < (page.size : Int)) = false := by simp; omega
  have hd : decide (id < 0) = false := by simpa using h
  have h1 : (page.size : Int) ≤ 9223372036854775807 := by unfold maxLen at hs; omega
  have hsz : page.size ≤ 9223372036854775807 := by unfold maxLen at hs; omega
  have HSZ := Lib.hid hsz
  have HB := Lib.hid hb
  have h0 : ¬ page.toList = [] := by
    intro he
    rw [ByteArray.toList_eq] at he
    have h2 : page.data.toList.length = page.size := by simp
    rw [he] at h2
    have := hb.1
    simp at h2; omega
  have h0b : page.toList.isEmpty = false := by
    cases hl : page.toList with
    | nil => exact absurd hl h0
    | cons _ _ => rfl
  clear hs hsz hb
  by_cases ht : dst < 0 ∨ dst = id
  · have HT := Lib.hid ht
    clear ht
    go_enter Try.func3, Try.ntmps3
    go_wp2_with fail
    refine (awake_any w).mono ?_
    rintro e w1 ⟨rfl, hc1⟩
    go_wp2_with fail
    refine (new_any id w1).mono ?_
    rintro e w2 ⟨rfl, hc2⟩
    rw [if_neg (by omega), if_neg (by omega)]
    have H2 := ((Own.made (A := hostR) w2 26 _ (newHost id) (newHost_own w2 id)).from hc2).from hc1
    go_wp2_with fail
    refine (hand_none _ w2.heap.size id [] page ⟨#[120]⟩ _ H2.here (by decide)).mono ?_
    rintro e w3 ⟨rfl, hc3⟩
    have H3 := H2.still hc3
    go_wp2_with fail
    refine (withdraw_none w3 w2.heap.size id [] page H3.here).mono ?_
    rintro e w4 ⟨rfl, hp4⟩
    obtain ⟨F4, H4⟩ := hp4.own H3
    go_wp2_with fail
    refine (start_any w4 w2.heap.size 0 (newHost id) F4 page H4.here HSZ.out ⟨by show 0 < 1000000000; omega⟩).mono ?_
    rintro e w5 ⟨rfl, hp5⟩
    rw [startM_new id page HB.out] at hp5 ⊢
    obtain ⟨F5, H5⟩ := hp5.own H4
    have hfind : findS page [newSeat page] 0 = some 0 := findS_self page _ _ rfl
    have HFI := Lib.hid hfind
    clear hfind
    go_wp2_with fail
    refine (runs_any w5 w2.heap.size 0 _ F5 page H5.here).mono ?_
    rintro e w6 ⟨rfl, hc6⟩
    rw [show runsM ⟨id, [newSeat page], []⟩ page = (1, true) from by unfold runsM; rw [HFI.out]; rfl]
    have H6 := H5.still hc6
    go_wp2_with fail
    refine (letter_any w6 w2.heap.size 0 _ F5 page H6.here).mono ?_
    rintro e w7 ⟨rfl, hc7⟩
    rw [show letterM ⟨id, [newSeat page], []⟩ page = (⟨#[]⟩, false) from by unfold letterM; rw [HFI.out]; rfl]
    have H7 := H6.still hc7
    go_wp2_with fail
    refine (start_any w7 w2.heap.size 0 _ F5 page H7.here HSZ.out ⟨by show 1 < 1000000000; omega⟩).mono ?_
    rintro e w8 ⟨rfl, hp8⟩
    rw [show startM ⟨id, [newSeat page], []⟩ page = (9, ⟨id, [newSeat page], []⟩) from by unfold startM; rw [if_neg (by simpa using HB.out), HFI.out]; rfl] at hp8 ⊢
    obtain ⟨F8, H8⟩ := hp8.own H7
    go_wp2_with fail
    refine (withdraw_any w8 w2.heap.size 0 _ F8 page H8.here ⟨by show 0 < 1000000000; omega⟩).mono ?_
    rintro e w9 ⟨rfl, hp9⟩
    rw [show withdrawM ⟨id, [newSeat page], []⟩ page = (7, ⟨id, [newSeat page], []⟩) from by unfold withdrawM; rw [HFI.out]; rfl] at hp9 ⊢
    obtain ⟨F9, H9⟩ := hp9.own H8
    go_wp2_with fail
    have hM : handM ⟨id, [newSeat page], []⟩ page ⟨#[120]⟩ dst = (1, ⟨id, [newSeat page], []⟩) := by
      unfold handM
      rw [HFI.out]
      show (if (1 : Int) ≠ 1 then _ else if dst < 0 ∨ dst = id then _ else _) = _
      rw [if_neg (by decide), if_pos HT.out]
    refine (hand_no w9 w2.heap.size 0 ⟨id, [newSeat page], []⟩ F9 page ⟨#[120]⟩ dst 1 hM (by decide) H9.here (by decide)).mono ?_
    rintro e w10 ⟨rfl, hc10⟩
    clear hM
    have H10 := H9.still hc10
    rcases HT.out with ht | ht
    · have hd5 : decide (dst < 0) = true := by simpa using ht
      clear ht
      go_wp2_with fail
      refine (send_any w10 w2.heap.size 0 _ F9 H10.here).mono ?_
      rintro e w11 ⟨v, F11, G, rfl, h11, hs11, hown, -⟩
      have H11 := H10.step h11 hs11
      obtain ⟨xs, Fs, hopen⟩ := Rep.opened hown
      obtain ⟨aa, cc, rfl, -⟩ := hopen.val
      simp only [List.length_nil]
      go_wp2_with fail
      go_ret
      exact ⟨rfl, H11.chg.below (Nat.le_refl _) (fun _ h => h.elim)⟩
    · subst ht
      go_wp2_with fail
      refine (send_any w10 w2.heap.size 0 _ F9 H10.here).mono ?_
      rintro e w11 ⟨v, F11, G, rfl, h11, hs11, hown, -⟩
      have H11 := H10.step h11 hs11
      obtain ⟨xs, Fs, hopen⟩ := Rep.opened hown
      obtain ⟨aa, cc, rfl, -⟩ := hopen.val
      simp only [List.length_nil]
      go_wp2_with fail
      go_ret
      exact ⟨rfl, H11.chg.below (Nat.le_refl _) (fun _ h => h.elim)⟩
  · have hd5 : decide (dst < 0) = false := by simp; omega
    have hd6 : (dst == id) = false := by simp; omega
    have HT := Lib.hid ht
    clear ht
    go_enter Try.func3, Try.ntmps3
    go_wp2_with fail
    refine (awake_any w).mono ?_
    rintro e w1 ⟨rfl, hc1⟩
    go_wp2_with fail
    refine (new_any id w1).mono ?_
    rintro e w2 ⟨rfl, hc2⟩
    rw [if_neg (by omega), if_neg (by omega)]
    have H2 := ((Own.made (A := hostR) w2 26 _ (newHost id) (newHost_own w2 id)).from hc2).from hc1
    go_wp2_with fail
    refine (hand_none _ w2.heap.size id [] page ⟨#[120]⟩ _ H2.here (by decide)).mono ?_
    rintro e w3 ⟨rfl, hc3⟩
    have H3 := H2.still hc3
    go_wp2_with fail
    refine (withdraw_none w3 w2.heap.size id [] page H3.here).mono ?_
    rintro e w4 ⟨rfl, hp4⟩
    obtain ⟨F4, H4⟩ := hp4.own H3
    go_wp2_with fail
    refine (start_any w4 w2.heap.size 0 (newHost id) F4 page H4.here HSZ.out ⟨by show 0 < 1000000000; omega⟩).mono ?_
    rintro e w5 ⟨rfl, hp5⟩
    rw [startM_new id page HB.out] at hp5 ⊢
    obtain ⟨F5, H5⟩ := hp5.own H4
    have hfind : findS page [newSeat page] 0 = some 0 := findS_self page _ _ rfl
    have HFI := Lib.hid hfind
    clear hfind
    go_wp2_with fail
    refine (runs_any w5 w2.heap.size 0 _ F5 page H5.here).mono ?_
    rintro e w6 ⟨rfl, hc6⟩
    rw [show runsM ⟨id, [newSeat page], []⟩ page = (1, true) from by unfold runsM; rw [HFI.out]; rfl]
    have H6 := H5.still hc6
    go_wp2_with fail
    refine (letter_any w6 w2.heap.size 0 _ F5 page H6.here).mono ?_
    rintro e w7 ⟨rfl, hc7⟩
    rw [show letterM ⟨id, [newSeat page], []⟩ page = (⟨#[]⟩, false) from by unfold letterM; rw [HFI.out]; rfl]
    have H7 := H6.still hc7
    go_wp2_with fail
    refine (start_any w7 w2.heap.size 0 _ F5 page H7.here HSZ.out ⟨by show 1 < 1000000000; omega⟩).mono ?_
    rintro e w8 ⟨rfl, hp8⟩
    rw [show startM ⟨id, [newSeat page], []⟩ page = (9, ⟨id, [newSeat page], []⟩) from by unfold startM; rw [if_neg (by simpa using HB.out), HFI.out]; rfl] at hp8 ⊢
    obtain ⟨F8, H8⟩ := hp8.own H7
    go_wp2_with fail
    refine (withdraw_any w8 w2.heap.size 0 _ F8 page H8.here ⟨by show 0 < 1000000000; omega⟩).mono ?_
    rintro e w9 ⟨rfl, hp9⟩
    rw [show withdrawM ⟨id, [newSeat page], []⟩ page = (7, ⟨id, [newSeat page], []⟩) from by unfold withdrawM; rw [HFI.out]; rfl] at hp9 ⊢
    obtain ⟨F9, H9⟩ := hp9.own H8
    go_wp2_with fail
    refine (hand_new w w9 w2.heap.size id page ⟨#[120]⟩ dst F9 (by decide) (fun x => HT.out (.inl x)) (fun x => HT.out (.inr x)) H9).mono ?_
    rintro e w10 ⟨rfl, F10, H10⟩
    go_wp2_with fail
    have hfind : findS page [gaveSeat page ⟨#[120]⟩ dst] 0 = some 0 := findS_self page _ _ rfl
    have hM : handM ⟨id, [gaveSeat page ⟨#[120]⟩ dst], offered id page ⟨#[120]⟩ dst⟩ page ⟨#[120]⟩ dst = (7, ⟨id, [gaveSeat page ⟨#[120]⟩ dst], offered id page ⟨#[120]⟩ dst⟩) := by
      unfold handM
      rw [hfind]
      show (if (2 : Int) ≠ 1 then _ else _) = _
      rw [if_pos (by decide)]
    refine (hand_no w10 w2.heap.size 0 _ F10 page ⟨#[120]⟩ dst 7 hM (by decide) H10.here (by decide)).mono ?_
    rintro e w11 ⟨rfl, hc11⟩
    clear hM hfind
    have H11 := H10.still hc11
    go_wp2_with fail
    refine (send_any w11 w2.heap.size 0 _ F10 H11.here).mono ?_
    rintro e w12 ⟨v, F12, G, rfl, h12, hs12, hown, -⟩
    have H12 := H11.step h12 hs12
    obtain ⟨xs, Fs, hopen⟩ := Rep.opened hown
    obtain ⟨aa, cc, rfl, -⟩ := hopen.val
    simp only [offered, List.length_cons, List.length_nil]
    go_wp2_with fail
    refine (send_any w12 w2.heap.size 0 _ F12 H12.here).mono ?_
    rintro e w13 ⟨v, F13, G2, rfl, h13, hs13, hown2, -⟩
    have H13 := H12.step h13 hs13
    obtain ⟨xs2, Fs2, hopen2⟩ := Rep.opened hown2
    obtain ⟨aa2, cc2, rfl, -⟩ := hopen2.val
    simp only [List.length_nil]
    go_wp2_with fail
    go_ret
    exact ⟨rfl, H13.chg.below (Nat.le_refl _) (fun _ h => h.elim)⟩

theorem migrateErrors_walk (id dst : Int) (page : ByteArray) (w : World) (hs : page.size ≤ maxLen) :
    Calls Try.prog 3 #[.int .i64 id, .int .i64 dst, .string page] w fun e w' => e = .returned (.bool true) ∧ Below w.heap.size w w' := by
  by_cases h3 : 300 < page.size
  · exact migrateErrors_long id dst page w hs h3
  · by_cases h : id < 0
    · exact migrateErrors_neg id dst page w hs h h3
    · by_cases hb : 1 ≤ page.size ∧ page.size ≤ 200
      · exact migrateErrors_ok id dst page w hs h hb
      · exact migrateErrors_bad id dst page w hs h h3 hb

set_option maxRecDepth 100000 in
theorem migrateErrors_lifted (os : Os) (started : os.Started) (H : Type) (enc : TypeId × Value → H) :
    ReturnsInHanded {} Try.checked os 3 .any (Rows.migrateErrorsSpec.pre6 enc Try.prog Try.f3 [] false) (Rows.migrateErrorsSpec.post enc Try.prog Try.f3 false true false false) := by
  refine law_lift (C := Try.checked) (tb := 4) started Try.own Try.laidOut (by kernel_rfl) Try.func3 (by kernel_rfl) rfl Try.underlying4 rfl ?_
    (ChangeSpec.witness6 (enc := enc) (C := Try.checked) false ⟨#[], #[.int .i64 0, .int .i64 0, .string ByteArray.empty], []⟩ 8 (by kernel_rfl) (by kernel_rfl) (by kernel_rfl) (by kernel_rfl)) ?_
  · intro ds h
    match ds, h with
    | [_, _, _], _ => rfl
  · intro W base vs ds ps hval hA hsz
    have hp : Try.f3.params.toList = [3, 3, 9] := by rw [Try.params3]
    rw [hp] at hval hA hsz
    obtain ⟨v0, vs0, d0, ds0, p0, q0, rfl, rfl, rfl, h0, r0⟩ := trodAll_cons hA
    obtain ⟨v1, vs1, d1, ds1, p1, q1, rfl, rfl, rfl, h1, r1⟩ := trodAll_cons r0
    obtain ⟨v2, vs2, d2, ds2, p2, q2, rfl, rfl, rfl, h2, r2⟩ := trodAll_cons r1
    obtain ⟨rfl, rfl, rfl⟩ := trodAll_nil r2
    obtain ⟨a0, rfl, rfl, rfl, w0⟩ := open_int Try.underlying3 (hval 0 3 v0 rfl rfl) h0
    obtain ⟨a1, rfl, rfl, rfl, w1⟩ := open_int Try.underlying3 (hval 1 3 v1 rfl rfl) h1
    obtain ⟨a2, rfl, rfl, rfl, w2⟩ := open_string Try.underlying9 (hval 2 9 v2 rfl rfl) h2
    have l2 : a2.size ≤ 140737488351232 := by have := sized_string hsz (j := 2) (t := 9) rfl rfl; simpa [reachBytes] using this
    exact migrateErrors_walk a0 a1 a2 W w2

theorem migrateErrors_holds : Rows.MigrateErrorsSaid :=
  OpenClaim.holds_of_wide 3 Try.f3 rfl rfl rfl rfl rfl rfl rfl ⟨rfl, rfl, rfl, rfl, rfl⟩ rfl rfl rfl rfl rfl (by kernel_rfl) Try.func3 (by kernel_rfl)
    (of_decide_eq_true (by kernel_rfl)) (by unfold Func.isWrapper; first | (rw [if_pos (by decide +kernel)]; kernel_rfl) | (rw [if_neg (by decide +kernel)]; exact ⟨rfl, rfl⟩))
    (fun os started H enc _ => migrateErrors_lifted os started H enc)
#print axioms migrateErrors_holds
end Go.Proofs.Ytkoopagjjmdodaa
