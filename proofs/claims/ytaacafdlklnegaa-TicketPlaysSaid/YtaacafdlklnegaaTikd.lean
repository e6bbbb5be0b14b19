/-
  The network's side of layer 53: End, Feed, Ask, Close.
-/
import Derived.Test.YtaacafdlklnegaaTikc
import Derived.IntWalk
namespace Go.Proofs.Ytaacafdlklnegaa
open Go.RowKit
set_option linter.unusedVariables false

def State.setE (s : State) (j : Nat) (x : Entry) : State := { s with entries := s.entries.set j x }
def endM (s : State) (page : ByteArray) (n : Int) : Int × State :=
  match (runningM s page n).1 with
  | none => ((runningM s page n).2, s)
  | some j => (0, s.setE j { s.entries.getD j noEntry with ended := true })
def feedM (s : State) (page : ByteArray) (n : Int) (piece : ByteArray) : Int × State :=
  match (runningM s page n).1 with
  | none => ((runningM s page n).2, s)
  | some j => if (s.entries.getD j noEntry).closed = true then (0, s) else (0, s.setE j { s.entries.getD j noEntry with pieces := (s.entries.getD j noEntry).pieces ++ [piece] })
def closeM (s : State) (page : ByteArray) (ep n : Int) : Int × State :=
  match (openM s page ep n).1 with
  | none => ((openM s page ep n).2, s)
  | some j => (0, s.setE j { s.entries.getD j noEntry with acked := (s.entries.getD j noEntry).acked + (s.entries.getD j noEntry).pieces.length, pieces := [], closed := true })
def askM (s : State) (page : ByteArray) (ep n : Int) (req : ByteArray) : Int × State :=
  if servesB s page ep = false then (14, s) else if n < 1 then (1, s) else
  match findE page n s.entries 0 with
  | some j => if ((s.entries.getD j noEntry).request.toList == req.toList) = true then (0, s) else (9, s)
  | none => if 64 ≤ (opens s page).length then (5, s) else (0, { s with entries := s.entries ++ [⟨page, n, req, [], 0, false, false⟩], sent := s.sent ++ [req] })

theorem runningM_some {s : State} {page : ByteArray} {n : Int} {j : Nat} (h : (runningM s page n).1 = some j) : j < s.entries.length ∧ runningM s page n = (some j, 0) := by
  unfold runningM at h ⊢
  cases hf : findE page n s.entries 0 with
  | none => rw [hf] at h; cases h
  | some i =>
    rw [hf] at h
    simp only at h ⊢
    by_cases hb : (s.entries.getD i noEntry).ended = true
    · rw [if_pos hb] at h; cases h
    · rw [if_neg hb] at h ⊢
      cases h
      have := findE_lt page n s.entries 0 j hf
      exact ⟨by omega, rfl⟩
theorem runningM_none {s : State} {page : ByteArray} {n : Int} (h : (runningM s page n).1 = none) : (runningM s page n).2 = 6 ∨ (runningM s page n).2 = 7 := by
  unfold runningM at h ⊢
  cases hf : findE page n s.entries 0 with
  | none => exact .inl rfl
  | some i =>
    rw [hf] at h
    simp only at h ⊢
    by_cases hb : (s.entries.getD i noEntry).ended = true
    · rw [if_pos hb]; exact .inr rfl
    · rw [if_neg hb] at h; cases h
theorem openM_some {s : State} {page : ByteArray} {ep n : Int} {j : Nat} (h : (openM s page ep n).1 = some j) : j < s.entries.length ∧ openM s page ep n = (some j, 0) := by
  unfold openM at h ⊢
  by_cases hs : servesB s page ep = false
  · rw [if_pos hs] at h; cases h
  rw [if_neg hs] at h ⊢
  cases hf : findE page n s.entries 0 with
  | none => rw [hf] at h; cases h
  | some i =>
    rw [hf] at h
    simp only at h ⊢
    by_cases hb : (s.entries.getD i noEntry).closed = true
    · rw [if_pos hb] at h; cases h
    · rw [if_neg hb] at h ⊢
      cases h
      have := findE_lt page n s.entries 0 j hf
      exact ⟨by omega, rfl⟩
theorem openM_none {s : State} {page : ByteArray} {ep n : Int} (h : (openM s page ep n).1 = none) : (openM s page ep n).2 = 6 ∨ (openM s page ep n).2 = 14 := by
  unfold openM at h ⊢
  by_cases hs : servesB s page ep = false
  · rw [if_pos hs]; exact .inr rfl
  rw [if_neg hs] at h ⊢
  cases hf : findE page n s.entries 0 with
  | none => exact .inl rfl
  | some i =>
    rw [hf] at h
    simp only at h ⊢
    by_cases hb : (s.entries.getD i noEntry).closed = true
    · rw [if_pos hb]; exact .inl rfl
    · rw [if_neg hb] at h; cases h
/-- The entry at a place, and the way back. -/
theorem stEntry {w : World} {b o : Nat} {s : State} {F : List Nat} (H : Here stateR w b o s F) {j : Nat} (hj : j < s.entries.length) : ∃ g off cap G, w.cell? ⟨b, o + 1, none⟩ = some (.slice (some ⟨g, off, none⟩) s.entries.length cap) ∧ Here entryR w g (off + j * 7) s.entries[j] G ∧
    ∀ w' y, Post entryR w g (off + j * 7) y G w' → Post stateR w b o (s.setE j y) F w' := by
  obtain ⟨g, off, cap, hv⟩ := H.rowAt stateR_entries (by show 0 < 3; decide) (by show 0 < s.entries.length; omega)
  obtain ⟨G, HE, _, _, _, hback⟩ := H.rowElem stateR_entries (by show 0 < 3; decide) hv hj
  refine ⟨g, off, cap, G, hv, HE, fun w' y hp => ?_⟩
  obtain ⟨G', h1, h2⟩ := hp
  exact (hback w' y G' h1 h2).1

set_option maxHeartbeats 1600000 in
set_option maxRecDepth 100000 in
theorem end_any (w : World) (b o : Nat) (s : State) (F : List Nat) (page : ByteArray) (n : Int) (H : Here stateR w b o s F) :
    Calls Try.prog 17 #[.pointer (some ⟨b, o, none⟩), .string page, .int .i64 n] w fun e w' => e = .returned (.int .i64 (endM s page n).1) ∧ Post stateR w b o (endM s page n).2 F w' := by
  cases hr : (runningM s page n).1 with
  | none =>
    have hM : endM s page n = ((runningM s page n).2, s) := by unfold endM; rw [hr]
    rw [hM]
    show Calls _ _ _ _ fun e w' => e = .returned (.int .i64 (runningM s page n).2) ∧ Post stateR w b o s F w'
    have h0 : ((runningM s page n).2 == 0) = false := by rcases runningM_none hr with h | h <;> rw [h] <;> rfl
    obtain ⟨_, v1, _, _, c1, -⟩ := stateCells H
    have HR := Lib.hid (running_any w b o s F page n v1 H c1)
    rw [hr, rowPtr_none] at HR
    generalize (runningM s page n).2 = err at *
    clear hM hr c1
    go_enter Try.func17, Try.ntmps17
    go_wp2_with fail
    refine HR.out.mono ?_
    rintro e w1 ⟨rfl, rfl⟩
    go_wp2_with fail
    go_ret
    exact ⟨rfl, H.same (.refl _ _)⟩
  | some j =>
    obtain ⟨hj, he⟩ := runningM_some hr
    have hM : endM s page n = (0, s.setE j { s.entries[j] with ended := true }) := by unfold endM; rw [hr]; simp [hj]
    rw [hM]
    show Calls _ _ _ _ fun e w' => e = .returned (.int .i64 0) ∧ Post stateR w b o (s.setE j { s.entries[j] with ended := true }) F w'
    obtain ⟨g, off, cap, G, hv, HE, hback⟩ := stEntry H hj
    obtain ⟨vp, e0, e1, e2, e3, e4, e5, e6, -⟩ := entryCells HE
    have fz := HE.frozen (off + j * 7 + 5)
    have HP := Lib.hid (hback _ _ (HE.setField entryR_ended (y := true) (v := .bool true) rfl))
    have HR := Lib.hid (running_any w b o s F page n _ H hv)
    rw [he, rowPtr_some] at HR
    clear hM hr he hback
    go_enter Try.func17, Try.ntmps17
    go_wp2_with fail
    refine HR.out.mono ?_
    rintro e w1 ⟨rfl, rfl⟩
    go_wp2_with fail
    go_ret
    exact ⟨rfl, HP.out⟩

set_option maxHeartbeats 1600000 in
set_option maxRecDepth 100000 in
theorem feed_any (w : World) (b o : Nat) (s : State) (F : List Nat) (page : ByteArray) (n : Int) (piece : ByteArray) (H : Here stateR w b o s F) (hl : ∀ x ∈ s.entries, Few x.pieces.length) :
    Calls Try.prog 16 #[.pointer (some ⟨b, o, none⟩), .string page, .int .i64 n, .string piece] w fun e w' => e = .returned (.int .i64 (feedM s page n piece).1) ∧ Post stateR w b o (feedM s page n piece).2 F w' := by
  cases hr : (runningM s page n).1 with
  | none =>
    have hM : feedM s page n piece = ((runningM s page n).2, s) := by unfold feedM; rw [hr]
    rw [hM]
    show Calls _ _ _ _ fun e w' => e = .returned (.int .i64 (runningM s page n).2) ∧ Post stateR w b o s F w'
    have h0 : ((runningM s page n).2 == 0) = false := by rcases runningM_none hr with h | h <;> rw [h] <;> rfl
    obtain ⟨_, v1, _, _, c1, -⟩ := stateCells H
    have HR := Lib.hid (running_any w b o s F page n v1 H c1)
    rw [hr, rowPtr_none] at HR
    generalize (runningM s page n).2 = err at *
    clear hM hr c1
    go_enter Try.func16, Try.ntmps16
    go_wp2_with fail
    refine HR.out.mono ?_
    rintro e w1 ⟨rfl, rfl⟩
    go_wp2_with fail
    go_ret
    exact ⟨rfl, H.same (.refl _ _)⟩
  | some j =>
    obtain ⟨hj, he⟩ := runningM_some hr
    have hM : feedM s page n piece = if s.entries[j].closed = true then (0, s) else (0, s.setE j { s.entries[j] with pieces := s.entries[j].pieces ++ [piece] }) := by unfold feedM; rw [hr]; simp [hj]
    rw [hM]
    obtain ⟨g, off, cap, G, hv, HE, hback⟩ := stEntry H hj
    obtain ⟨vp, e0, e1, e2, e3, e4, e5, e6, -⟩ := entryCells HE
    have HR := Lib.hid (running_any w b o s F page n _ H hv)
    rw [he, rowPtr_some] at HR
    have HLE := Lib.hid elem_str
    have HL := Lib.hid (hl _ (List.getElem_mem hj))
    by_cases hb : s.entries[j].closed = true
    · rw [if_pos hb]
      clear hM hr he hback
      go_enter Try.func16, Try.ntmps16
      go_wp2_with fail
      refine HR.out.mono ?_
      rintro e w1 ⟨rfl, rfl⟩
      go_wp2_with fail
      go_ret
      exact ⟨rfl, H.same (.refl _ _)⟩
    · rw [if_neg hb]
      show Calls _ _ _ _ fun e w' => e = .returned (.int .i64 0) ∧ Post stateR w b o (s.setE j { s.entries[j] with pieces := s.entries[j].pieces ++ [piece] }) F w'
      rw [Bool.not_eq_true] at hb
      obtain ⟨p, cp, xs, Fs, Fr, d3, hopen, fz, haft, hfin⟩ := HE.fieldAppending entryR_pieces (by show 0 < 7; decide)
      rw [e3] at d3
      cases d3
      have HAFT := Lib.hid haft
      have HFIN := Lib.hid hfin
      have HB := Lib.hid hback
      have hrowA := hopen.row.alloc (.cells #[.string piece] 9)
      have hchA := Chg.alloc (fun _ => False) w (.cells #[.string piece] 9)
      clear hM hr he haft hfin hback
      go_enter Try.func16, Try.ntmps16
      go_wp2_with fail
      refine HR.out.mono ?_
      rintro e w1 ⟨rfl, rfl⟩
      go_wp2_with (first
        | (at_builtin; refine list_append_elem rfl (.tmp 31) (.tmp 33) 25 rfl 9 1 16 Try.underlying25 HLE.out (by decide) _ s.entries[j].pieces.length xs.flatten rfl hrowA [.string piece] rfl w.heap.size 9 (0, 0) rfl (alloc_block w _) (by simp [Value.oneCell']) (by have := HL.out.lt; unfold maxLen; omega) (by have := HL.out.lt; omega) ?_; intro a3 n3 c3 w3 hrow3 hchg3 hold3; obtain ⟨cc3, f3⟩ := HAFT.out _ _ hchA hchg3))
      go_ret
      exact ⟨rfl, HB.out _ _ (HFIN.out _ _ [.string piece] piece [] _ hchA ⟨rfl, rfl⟩ (by simp) (by simp) hrow3 hchg3 hold3)⟩

set_option maxHeartbeats 1600000 in
set_option maxRecDepth 100000 in
theorem ask_served (w : World) (b o : Nat) (s : State) (F : List Nat) (page : ByteArray) (ep n : Int) (req : ByteArray) (H : Here stateR w b o s F) (hl : Few s.entries.length) (hl2 : Few s.sent.length) (hs : servesB s page ep = true) :
    Calls Try.prog 13 #[.pointer (some ⟨b, o, none⟩), .string page, .int .i64 ep, .int .i64 n, .string req] w fun e w' => e = .returned (.int .i64 (askM s page ep n req).1) ∧ Post stateR w b o (askM s page ep n req).2 F w' := by
  have hM : askM s page ep n req = if n < 1 then ((1 : Int), s) else
    match findE page n s.entries 0 with
    | some j => if ((s.entries.getD j noEntry).request.toList == req.toList) = true then (0, s) else (9, s)
    | none => if 64 ≤ (opens s page).length then (5, s) else (0, { s with entries := s.entries ++ [⟨page, n, req, [], 0, false, false⟩], sent := s.sent ++ [req] }) := by
    unfold askM; rw [if_neg (by rw [hs]; simp)]
  rw [hM]
  clear hM
  obtain ⟨v0, v1, v2, c0, c1, c2, -⟩ := stateCells H
  unfold servesB at hs
  cases hfo : findO page s.owners 0 with
  | none => rw [hfo] at hs; cases hs
  | some i =>
    have hlt := findO_lt page s.owners 0 i hfo
    have hi : i < s.owners.length := by omega
    obtain ⟨g, off, cap, hv'⟩ := H.rowAt stateR_owners (by show 0 < 3; decide) (by show 0 < s.owners.length; omega)
    rw [Nat.add_zero] at hv'
    rw [c0] at hv'
    cases hv'
    obtain ⟨G, HO, -⟩ := H.rowElem stateR_owners (by show 0 < 3; decide) (by rw [Nat.add_zero]; exact c0) hi
    change Here ownerR w g (off + i * 2) s.owners[i] G at HO
    obtain ⟨o0, o1⟩ := ownerCells HO
    rw [hfo] at hs
    simp only [List.getD_eq_getElem?_getD, List.getElem?_eq_getElem hi, Option.getD_some] at hs
    have hs2 : (s.owners[i].epoch != ep) = false := by rw [bne, hs]; rfl
    have HRO := Lib.hid (owner_any w b o s F page _ H c0)
    rw [hfo, rowPtr_some] at HRO
    clear hfo hlt c2
    by_cases hn : n < 1
    · rw [if_pos hn]
      have hd : decide (n < 1) = true := by simpa using hn
      clear hn c1
      go_enter Try.func13, Try.ntmps13
      go_wp2_with fail
      refine HRO.out.mono ?_
      rintro e w1 ⟨rfl, rfl⟩
      go_wp2_with fail
      go_ret
      exact ⟨rfl, H.same (.refl _ _)⟩
    rw [if_neg hn]
    have hd : decide (n < 1) = false := by simpa using hn
    have HRE := Lib.hid (entry_any w b o s F page n _ H c1)
    cases hf : findE page n s.entries 0 with
    | some j =>
      have hlt := findE_lt page n s.entries 0 j hf
      have hj : j < s.entries.length := by omega
      obtain ⟨ge, oe, ce, GE, hv, HE, -⟩ := stEntry H hj
      rw [c1] at hv
      cases hv
      obtain ⟨vp, e0, e1, e2, e3, e4, e5, e6, -⟩ := entryCells HE
      simp only [List.getD_eq_getElem?_getD, List.getElem?_eq_getElem hj, Option.getD_some]
      rw [hf, rowPtr_some] at HRE
      clear hf hlt hn c1
      by_cases hq : (s.entries[j].request.toList == req.toList) = true
      · rw [if_pos hq]
        have hq2 : (s.entries[j].request.toList != req.toList) = false := by rw [bne, hq]; rfl
        go_enter Try.func13, Try.ntmps13
        go_wp2_with fail
        refine HRO.out.mono ?_
        rintro e w1 ⟨rfl, rfl⟩
        go_wp2_with fail
        refine HRE.out.mono ?_
        rintro e w1 ⟨rfl, rfl⟩
        go_wp2_with fail
        go_ret
        exact ⟨rfl, H.same (.refl _ _)⟩
      · rw [if_neg hq]
        rw [Bool.not_eq_true] at hq
        have hq2 : (s.entries[j].request.toList != req.toList) = true := by rw [bne, hq]; rfl
        go_enter Try.func13, Try.ntmps13
        go_wp2_with fail
        refine HRO.out.mono ?_
        rintro e w1 ⟨rfl, rfl⟩
        go_wp2_with fail
        refine HRE.out.mono ?_
        rintro e w1 ⟨rfl, rfl⟩
        go_wp2_with fail
        go_ret
        exact ⟨rfl, H.same (.refl _ _)⟩
    | none =>
      rw [hf, rowPtr_none] at HRE
      have hol := opens_le s page
      have HLO : Hid ((openL s page).length = (opens s page).length) := Lib.hid (sorted_length _)
      have hlF := hl.lt
      clear hf hn c1
      by_cases h64 : 64 ≤ (opens s page).length
      · rw [if_pos h64]
        have hd64 : decide ((64 : Int) ≤ ((opens s page).length : Int)) = true := by simp; omega
        have HLF := Lib.hid hlF
        clear h64 hol hlF
        go_enter Try.func13, Try.ntmps13
        go_wp2_with fail
        refine HRO.out.mono ?_
        rintro e w1 ⟨rfl, rfl⟩
        go_wp2_with fail
        refine HRE.out.mono ?_
        rintro e w1 ⟨rfl, rfl⟩
        go_wp2_with fail
        refine (openNums_any w b o s F page H hl).mono ?_
        rintro e w2 ⟨vn, rfl, hrow, -, hc2⟩
        obtain ⟨pn, cn, rfl, -, -⟩ := hrow.slice
        rw [HLO.out]
        go_wp2_with fail
        go_ret
        exact ⟨rfl, H.same hc2⟩
      · rw [if_neg h64]
        show Calls _ _ _ _ fun e w' => e = .returned (.int .i64 0) ∧ Post stateR w b o { s with entries := s.entries ++ [⟨page, n, req, [], 0, false, false⟩], sent := s.sent ++ [req] } F w'
        have hd64 : decide ((64 : Int) ≤ ((opens s page).length : Int)) = false := by simp; omega
        have HEE := Lib.hid elem_entry
        have HES := Lib.hid elem_str
        clear h64 hol hlF
        go_enter Try.func13, Try.ntmps13
        go_wp2_with fail
        refine HRO.out.mono ?_
        rintro e w1 ⟨rfl, rfl⟩
        go_wp2_with fail
        refine HRE.out.mono ?_
        rintro e w1 ⟨rfl, rfl⟩
        go_wp2_with fail
        refine (openNums_any w b o s F page H hl).mono ?_
        rintro e w2 ⟨vn, rfl, hrow, -, hc2⟩
        obtain ⟨pn, cn, rfl, -, -⟩ := hrow.slice
        rw [HLO.out]
        have H2 := H.still hc2
        obtain ⟨p, cp, xs, Fs, Fr, d1, hopen, fz, haft, hfin⟩ := H2.fieldAppending stateR_entries (by show 0 < 3; decide)
        have HAFT := Lib.hid haft
        have HFIN := Lib.hid hfin
        have hrowA := hopen.row.alloc (.cells #[.string page, .int .i64 n, .string req, .slice none 0 0, .int .i64 0, .bool false, .bool false] 69)
        have hchA := Chg.alloc (fun _ => False) w2 (.cells #[.string page, .int .i64 n, .string req, .slice none 0 0, .int .i64 0, .bool false, .bool false] 69)
        have HOWN : Hid (entryR.own (w2.alloc (.cells #[.string page, .int .i64 n, .string req, .slice none 0 0, .int .i64 0, .bool false, .bool false] 69)) [.string page, .int .i64 n, .string req, .slice none 0 0, .int .i64 0, .bool false, .bool false] ⟨page, n, req, [], 0, false, false⟩ []) := Lib.hid ⟨_, [], rfl, row_flat.2 ⟨_, rfl, RowAt.nil _ _ _, rfl⟩, rfl⟩
        have hlt2 := H2.lt.1
        clear haft hfin c0 o0 o1 hrow
        go_upto_region 14 with (first
          | (at_builtin; refine list_append_elem rfl (.tmp 49) (.tmp 54) 24 rfl 69 7 80 Try.underlying24 HEE.out (by decide) _ s.entries.length xs.flatten rfl hrowA [.string page, .int .i64 n, .string req, .slice none 0 0, .int .i64 0, .bool false, .bool false] rfl w2.heap.size 69 (0, 0) rfl (alloc_block w2 _) (by simp [Value.oneCell']) (by have := hl.lt; unfold maxLen; omega) (by have := hl.lt; omega) ?_; intro a3 n3 c3 w3 hrow3 hchg3 hold3; obtain ⟨cc3, f3⟩ := HAFT.out _ _ hchA hchg3))
        obtain ⟨F4, H4, hs4⟩ := HFIN.out _ _ [.string page, .int .i64 n, .string req, .slice none 0 0, .int .i64 0, .bool false, .bool false] ⟨page, n, req, [], 0, false, false⟩ [] _ hchA HOWN.out (by simp) (by simp) hrow3 hchg3 hold3
        clear HFIN HAFT cc3 f3 hrow3 hchg3 hold3 hrowA hchA HOWN fz d1 hopen
        generalize w3.setCell ⟨b, o + 1, none⟩ (.slice a3 n3 c3) = w4 at *
        obtain ⟨p, cp, xs, Fs, Fr, d2, hopen, fz, haft, hfin⟩ := H4.fieldAppending stateR_sent (by show 0 < 3; decide)
        have HAFT := Lib.hid haft
        have HFIN := Lib.hid hfin
        have hrowA := hopen.row.alloc (.cells #[.string req] 9)
        have hchA := Chg.alloc (fun _ => False) w4 (.cells #[.string req] 9)
        clear haft hfin
        go_wp2_with (first
          | (at_builtin; refine list_append_elem rfl (.tmp 62) (.tmp 64) 25 rfl 9 1 16 Try.underlying25 HES.out (by decide) _ s.sent.length xs.flatten rfl hrowA [.string req] rfl w4.heap.size 9 (0, 0) rfl (alloc_block w4 _) (by simp [Value.oneCell']) (by have := hl2.lt; unfold maxLen; omega) (by have := hl2.lt; omega) ?_; intro a5 n5 c5 w5 hrow5 hchg5 hold5; obtain ⟨cc5, f5⟩ := HAFT.out _ _ hchA hchg5))
        go_ret
        refine ⟨rfl, Post.pre hc2 ?_⟩
        obtain ⟨F6, H6, hs6⟩ := HFIN.out _ _ [.string req] req [] _ hchA ⟨rfl, rfl⟩ (by simp) (by simp) hrow5 hchg5 hold5
        exact ⟨F6, H6, hs4.trans hs6⟩

set_option maxHeartbeats 1600000 in
set_option maxRecDepth 100000 in
theorem ask_no (w : World) (b o : Nat) (s : State) (F : List Nat) (page : ByteArray) (ep n : Int) (req : ByteArray) (H : Here stateR w b o s F) (hs : servesB s page ep = false) :
    Calls Try.prog 13 #[.pointer (some ⟨b, o, none⟩), .string page, .int .i64 ep, .int .i64 n, .string req] w fun e w' => e = .returned (.int .i64 14) ∧ Post stateR w b o s F w' := by
  obtain ⟨v0, v1, v2, c0, -⟩ := stateCells H
  unfold servesB at hs
  cases hf : findO page s.owners 0 with
  | none =>
    have HRO := Lib.hid (owner_any w b o s F page _ H c0)
    rw [hf, rowPtr_none] at HRO
    clear hf hs
    go_enter Try.func13, Try.ntmps13
    go_wp2_with fail
    refine HRO.out.mono ?_
    rintro e w1 ⟨rfl, rfl⟩
    go_wp2_with fail
    go_ret
    exact ⟨rfl, H.same (.refl _ _)⟩
  | some j =>
    have hlt := findO_lt page s.owners 0 j hf
    have hj : j < s.owners.length := by omega
    obtain ⟨g, off, cap, hv'⟩ := H.rowAt stateR_owners (by show 0 < 3; decide) (by show 0 < s.owners.length; omega)
    rw [Nat.add_zero] at hv'
    rw [c0] at hv'
    cases hv'
    obtain ⟨G, HE, hgb, -⟩ := H.rowElem stateR_owners (by show 0 < 3; decide) (by rw [Nat.add_zero]; exact c0) hj
    change Here ownerR w g (off + j * 2) s.owners[j] G at HE
    obtain ⟨e0, e1⟩ := ownerCells HE
    rw [hf] at hs
    simp only [List.getD_eq_getElem?_getD, List.getElem?_eq_getElem hj, Option.getD_some] at hs
    have hs2 : (s.owners[j].epoch != ep) = true := by rw [bne, hs]; rfl
    have HRO := Lib.hid (owner_any w b o s F page _ H c0)
    rw [hf, rowPtr_some] at HRO
    clear hf hlt
    go_enter Try.func13, Try.ntmps13
    go_wp2_with fail
    refine HRO.out.mono ?_
    rintro e w1 ⟨rfl, rfl⟩
    go_wp2_with fail
    go_ret
    exact ⟨rfl, H.same (.refl _ _)⟩
theorem ask_any (w : World) (b o : Nat) (s : State) (F : List Nat) (page : ByteArray) (ep n : Int) (req : ByteArray) (H : Here stateR w b o s F) (hl : Few s.entries.length) (hl2 : Few s.sent.length) :
    Calls Try.prog 13 #[.pointer (some ⟨b, o, none⟩), .string page, .int .i64 ep, .int .i64 n, .string req] w fun e w' => e = .returned (.int .i64 (askM s page ep n req).1) ∧ Post stateR w b o (askM s page ep n req).2 F w' := by
  cases hs : servesB s page ep with
  | true => exact ask_served w b o s F page ep n req H hl hl2 hs
  | false =>
    have hM : askM s page ep n req = (14, s) := by unfold askM; rw [if_pos hs]
    rw [hM]
    exact ask_no w b o s F page ep n req H hs

set_option maxHeartbeats 1600000 in
set_option maxRecDepth 100000 in
theorem close_any (w : World) (b o : Nat) (s : State) (F : List Nat) (page : ByteArray) (ep n : Int) (H : Here stateR w b o s F) (hl : ∀ x ∈ s.entries, Few x.pieces.length ∧ 0 ≤ x.acked ∧ Few x.acked.toNat) :
    Calls Try.prog 14 #[.pointer (some ⟨b, o, none⟩), .string page, .int .i64 ep, .int .i64 n] w fun e w' => e = .returned (.int .i64 (closeM s page ep n).1) ∧ Post stateR w b o (closeM s page ep n).2 F w' := by
  cases hr : (openM s page ep n).1 with
  | none =>
    have hM : closeM s page ep n = ((openM s page ep n).2, s) := by unfold closeM; rw [hr]
    rw [hM]
    show Calls _ _ _ _ fun e w' => e = .returned (.int .i64 (openM s page ep n).2) ∧ Post stateR w b o s F w'
    have h0 : ((openM s page ep n).2 == 0) = false := by rcases openM_none hr with h | h <;> rw [h] <;> rfl
    obtain ⟨_, v1, _, _, c1, -⟩ := stateCells H
    have HR := Lib.hid (open_any w b o s F page ep n v1 H c1)
    rw [hr, rowPtr_none] at HR
    generalize (openM s page ep n).2 = err at *
    clear hM hr c1
    go_enter Try.func14, Try.ntmps14
    go_wp2_with fail
    refine HR.out.mono ?_
    rintro e w1 ⟨rfl, rfl⟩
    go_wp2_with fail
    go_ret
    exact ⟨rfl, H.same (.refl _ _)⟩
  | some j =>
    obtain ⟨hj, he⟩ := openM_some hr
    have hM : closeM s page ep n = (0, s.setE j { s.entries[j] with acked := s.entries[j].acked + s.entries[j].pieces.length, pieces := [], closed := true }) := by unfold closeM; rw [hr]; simp [hj]
    rw [hM]
    show Calls _ _ _ _ fun e w' => e = .returned (.int .i64 0) ∧ Post stateR w b o (s.setE j { s.entries[j] with acked := s.entries[j].acked + s.entries[j].pieces.length, pieces := [], closed := true }) F w'
    obtain ⟨g, off, cap, G, hv, HE, hback⟩ := stEntry H hj
    obtain ⟨vp, e0, e1, e2, e3, e4, e5, e6, hp⟩ := entryCells HE
    obtain ⟨xs, Fs, hpo⟩ := Rep.opened hp
    obtain ⟨pa, pc, rfl, hp1, hp2⟩ := hpo.val
    obtain ⟨hl1, hl2, hl3⟩ := hl _ (List.getElem_mem hj)
    have hw : IntKind.i64.wrap (s.entries[j].acked + (s.entries[j].pieces.length : Int)) = s.entries[j].acked + (s.entries[j].pieces.length : Int) := IntWalk.i64_in _ (by have := hl1.lt; have := hl3.lt; omega)
    have hw0 : IntKind.i64.wrap (s.entries[j].pieces.length : Int) = (s.entries[j].pieces.length : Int) := IntWalk.i64_in _ (by have := hl1.lt; omega)
    have HR := Lib.hid (open_any w b o s F page ep n _ H hv)
    rw [he, rowPtr_some] at HR
    have HB := Lib.hid hback
    have HHE := Lib.hid HE
    clear hM hr he hback
    go_enter Try.func14, Try.ntmps14
    go_wp2_with fail
    refine HR.out.mono ?_
    rintro e w1 ⟨rfl, rfl⟩
    go_wp2_with fail
    go_still_tail 10, (by kernel_rfl)
    change wpList _ _ _ _ _ w.drew
    have HE2 := HE.drew
    have hch2 : Chg (fun _ => False) w w.drew := (Chg.refl _ w).drewR
    clear HHE HE e0 e1 e2 e3 e4 e5 e6 hp hpo HR
    generalize w.drew = w2 at *
    obtain ⟨_, e0, e1, e2, e3, e4, e5, e6, -⟩ := entryCells HE2
    have fz := fun i => HE2.frozen i
    have HP := (HE2.setPost entryR_acked (y := s.entries[j].acked + s.entries[j].pieces.length) (v := .int .i64 (s.entries[j].acked + s.entries[j].pieces.length)) rfl).then (fun F' h' => (h'.setNil entryR_pieces (by show 0 < 7; decide)).then (fun F'' h'' => h''.setPost entryR_closed (y := true) (v := .bool true) rfl))
    have HPP := Lib.hid (HB.out _ _ (Post.pre hch2 HP))
    clear HP HE2
    go_wp2_with fail
    go_ret
    exact ⟨rfl, HPP.out⟩
end Go.Proofs.Ytaacafdlklnegaa
