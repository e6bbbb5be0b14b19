/-
  The network's side of layer 53: open, running, Claim.
-/
import Derived.Test.YtaacafdlklnegaaTik
import Derived.StillTailTactics
namespace Go.Proofs.Ytaacafdlklnegaa
open Go.RowKit
set_option linter.unusedVariables false

theorem ownerCells {w : World} {g o : Nat} {s : Owner} {K : List Nat} (H : Here ownerR w g o s K) : w.cell? ⟨g, o, none⟩ = some (.string s.page) ∧ w.cell? ⟨g, o + 1, none⟩ = some (.int .i64 s.epoch) := by
  obtain ⟨cs, ⟨rfl, _⟩, hc⟩ := H.cell
  exact ⟨hc 0 _ rfl, hc 1 _ rfl⟩
theorem entryCells {w : World} {g o : Nat} {s : Entry} {K : List Nat} (H : Here entryR w g o s K) : ∃ vp, w.cell? ⟨g, o, none⟩ = some (.string s.page) ∧ w.cell? ⟨g, o + 1, none⟩ = some (.int .i64 s.number) ∧ w.cell? ⟨g, o + 2, none⟩ = some (.string s.request) ∧ w.cell? ⟨g, o + 3, none⟩ = some vp ∧
    w.cell? ⟨g, o + 4, none⟩ = some (.int .i64 s.acked) ∧ w.cell? ⟨g, o + 5, none⟩ = some (.bool s.ended) ∧ w.cell? ⟨g, o + 6, none⟩ = some (.bool s.closed) ∧ (Rep.str.row 9).own w [vp] s.pieces K := by
  obtain ⟨cs, ⟨vp, Fp, rfl, h1, rfl⟩, hc⟩ := H.cell
  exact ⟨vp, hc 0 _ rfl, hc 1 _ rfl, hc 2 _ rfl, hc 3 _ rfl, hc 4 _ rfl, hc 5 _ rfl, hc 6 _ rfl, h1⟩
theorem elem_owner : Elem Try.prog 67 2 24 := elem_of (by kernel_rfl)
theorem elem_entry : Elem Try.prog 69 7 80 := elem_of (by kernel_rfl)
theorem elem_str : Elem Try.prog 9 1 16 := elem_of (by kernel_rfl)
theorem elem_int : Elem Try.prog 3 1 8 := elem_of (by kernel_rfl)

def noOwner : Owner := ⟨⟨#[]⟩, 0⟩
def noEntry : Entry := ⟨⟨#[]⟩, 0, ⟨#[]⟩, [], 0, false, false⟩
/-- Whether an epoch is served. -/
def servesB (s : State) (page : ByteArray) (epoch : Int) : Bool :=
  match findO page s.owners 0 with
  | none => false
  | some i => (s.owners.getD i noOwner).epoch == epoch
/-- What open answers: a place, or an error. -/
def openM (s : State) (page : ByteArray) (epoch n : Int) : Option Nat × Int :=
  if servesB s page epoch = false then (none, 14) else
  match findE page n s.entries 0 with
  | none => (none, 6)
  | some j => if (s.entries.getD j noEntry).closed = true then (none, 6) else (some j, 0)
def runningM (s : State) (page : ByteArray) (n : Int) : Option Nat × Int :=
  match findE page n s.entries 0 with
  | none => (none, 6)
  | some j => if (s.entries.getD j noEntry).ended = true then (none, 7) else (some j, 0)
def claimM (s : State) (page : ByteArray) (epoch : Int) : Int × State :=
  if ¬ (1 ≤ page.size ∧ page.size ≤ 200) ∨ epoch < 1 then (1, s) else
  match findO page s.owners 0 with
  | none => (0, { s with owners := s.owners ++ [⟨page, epoch⟩] })
  | some i => if epoch < (s.owners.getD i noOwner).epoch then (14, s) else (0, { s with owners := s.owners.set i { s.owners.getD i noOwner with epoch := epoch } })

set_option maxHeartbeats 1600000 in
set_option maxRecDepth 100000 in
theorem running_any (w : World) (b o : Nat) (s : State) (F : List Nat) (page : ByteArray) (n : Int) (v : Value) (H : Here stateR w b o s F) (hv : w.cell? ⟨b, o + 1, none⟩ = some v) :
    Calls Try.prog 34 #[.pointer (some ⟨b, o, none⟩), .string page, .int .i64 n] w fun e w' => e = .returned (.tuple #[.pointer (rowPtr v 7 (runningM s page n).1), .int .i64 (runningM s page n).2]) ∧ w = w' := by
  cases hf : findE page n s.entries 0 with
  | none =>
    have hM : runningM s page n = (none, 6) := by unfold runningM; rw [hf]
    rw [hM]
    have HF := Lib.hid hf
    clear hf hM
    go_enter Try.func34, Try.ntmps34
    go_wp2_with fail
    refine (entry_any w b o s F page n v H hv).mono ?_
    rintro e w1 ⟨rfl, rfl⟩
    rw [HF.out, rowPtr_none]
    go_wp2_with fail
    go_ret2
    exact ⟨rfl, rfl⟩
  | some j =>
    have hlt := findE_lt page n s.entries 0 j hf
    have hj : j < s.entries.length := by omega
    obtain ⟨g, off, cap, hv'⟩ := H.rowAt stateR_entries (by show 0 < 3; decide) (by show 0 < s.entries.length; omega)
    rw [hv] at hv'
    cases hv'
    obtain ⟨G, HE, hgb, -⟩ := H.rowElem stateR_entries (by show 0 < 3; decide) hv hj
    change Here entryR w g (off + j * 7) s.entries[j] G at HE
    obtain ⟨vp, e0, e1, e2, e3, e4, e5, e6, -⟩ := entryCells HE
    have hM : runningM s page n = if s.entries[j].ended = true then (none, 7) else (some j, 0) := by unfold runningM; rw [hf]; simp [hj]
    rw [hM]
    have HF := Lib.hid hf
    clear hf hM hlt
    by_cases hb : s.entries[j].ended = true
    · rw [if_pos hb]
      go_enter Try.func34, Try.ntmps34
      go_wp2_with fail
      refine (entry_any w b o s F page n _ H hv).mono ?_
      rintro e w1 ⟨rfl, rfl⟩
      rw [HF.out, rowPtr_some]
      go_wp2_with fail
      go_ret2
      exact ⟨rfl, rfl⟩
    · rw [if_neg hb, rowPtr_some]
      rw [Bool.not_eq_true] at hb
      go_enter Try.func34, Try.ntmps34
      go_wp2_with fail
      refine (entry_any w b o s F page n _ H hv).mono ?_
      rintro e w1 ⟨rfl, rfl⟩
      rw [HF.out, rowPtr_some]
      go_wp2_with fail
      go_ret2
      exact ⟨rfl, rfl⟩

set_option maxHeartbeats 1600000 in
set_option maxRecDepth 100000 in
theorem open_no (w : World) (b o : Nat) (s : State) (F : List Nat) (page : ByteArray) (ep n : Int) (H : Here stateR w b o s F) (hs : servesB s page ep = false) :
    Calls Try.prog 32 #[.pointer (some ⟨b, o, none⟩), .string page, .int .i64 ep, .int .i64 n] w fun e w' => e = .returned (.tuple #[.pointer none, .int .i64 14]) ∧ w = w' := by
  obtain ⟨v0, v1, v2, c0, -⟩ := stateCells H
  unfold servesB at hs
  cases hf : findO page s.owners 0 with
  | none =>
    have HF := Lib.hid hf
    clear hf hs
    go_enter Try.func32, Try.ntmps32
    go_wp2_with fail
    refine (owner_any w b o s F page v0 H c0).mono ?_
    rintro e w1 ⟨rfl, rfl⟩
    rw [HF.out, rowPtr_none]
    go_wp2_with fail
    go_ret2
    exact ⟨rfl, rfl⟩
  | some j =>
    have hlt := findO_lt page s.owners 0 j hf
    have hj : j < s.owners.length := by omega
    obtain ⟨g, off, cap, hv'⟩ := H.rowAt stateR_owners (by show 0 < 3; decide) (by show 0 < s.owners.length; omega)
    rw [Nat.add_zero] at hv'
    rw [c0] at hv'
    cases hv'
    obtain ⟨G, HE, hgb, -⟩ := H.rowElem stateR_owners (by show 0 < 3; decide) (by rw [Nat.add_zero]; exact c0) hj
    change Here ownerR w g (off + j * 2) s.owners[j] G at HE
    obtain ⟨e0, e1⟩ := ownerCells HE
    rw [hf] at hs
    simp only [List.getD_eq_getElem?_getD, List.getElem?_eq_getElem hj, Option.getD_some] at hs
    have hs2 : (s.owners[j].epoch != ep) = true := by rw [bne, hs]; rfl
    have HF := Lib.hid hf
    clear hf hlt
    go_enter Try.func32, Try.ntmps32
    go_wp2_with fail
    refine (owner_any w b o s F page _ H c0).mono ?_
    rintro e w1 ⟨rfl, rfl⟩
    rw [HF.out, rowPtr_some]
    go_wp2_with fail
    go_ret2
    exact ⟨rfl, rfl⟩

set_option maxHeartbeats 1600000 in
set_option maxRecDepth 100000 in
theorem open_any (w : World) (b o : Nat) (s : State) (F : List Nat) (page : ByteArray) (ep n : Int) (v : Value) (H : Here stateR w b o s F) (hv : w.cell? ⟨b, o + 1, none⟩ = some v) :
    Calls Try.prog 32 #[.pointer (some ⟨b, o, none⟩), .string page, .int .i64 ep, .int .i64 n] w fun e w' => e = .returned (.tuple #[.pointer (rowPtr v 7 (openM s page ep n).1), .int .i64 (openM s page ep n).2]) ∧ w = w' := by
  by_cases hs : servesB s page ep = false
  · have hM : openM s page ep n = (none, 14) := by unfold openM; rw [if_pos hs]
    rw [hM]
    exact open_no w b o s F page ep n H hs
  have hM : openM s page ep n = match findE page n s.entries 0 with | none => (none, 6) | some j => if (s.entries.getD j noEntry).closed = true then (none, 6) else (some j, 0) := by unfold openM; rw [if_neg hs]
  rw [Bool.not_eq_false] at hs
  obtain ⟨v0, v1, v2, c0, -⟩ := stateCells H
  unfold servesB at hs
  cases hfo : findO page s.owners 0 with
  | none => rw [hfo] at hs; cases hs
  | some i =>
    have hlt := findO_lt page s.owners 0 i hfo
    have hi : i < s.owners.length := by omega
    obtain ⟨g, off, cap, hv'⟩ := H.rowAt stateR_owners (by show 0 < 3; decide) (by show 0 < s.owners.length; omega)
    rw [Nat.add_zero] at hv'
    rw [c0] at hv'
    cases hv'
    obtain ⟨G, HE, hgb, -⟩ := H.rowElem stateR_owners (by show 0 < 3; decide) (by rw [Nat.add_zero]; exact c0) hi
    change Here ownerR w g (off + i * 2) s.owners[i] G at HE
    obtain ⟨o0, o1⟩ := ownerCells HE
    rw [hfo] at hs
    simp only [List.getD_eq_getElem?_getD, List.getElem?_eq_getElem hi, Option.getD_some] at hs
    have hs2 : (s.owners[i].epoch != ep) = false := by rw [bne, hs]; rfl
    have HFO := Lib.hid hfo
    clear hfo hlt
    cases hf : findE page n s.entries 0 with
    | none =>
      rw [hf] at hM
      rw [hM]
      have HF := Lib.hid hf
      clear hf hM
      go_enter Try.func32, Try.ntmps32
      go_wp2_with fail
      refine (owner_any w b o s F page _ H c0).mono ?_
      rintro e w1 ⟨rfl, rfl⟩
      rw [HFO.out, rowPtr_some]
      go_wp2_with fail
      refine (entry_any w b o s F page n _ H hv).mono ?_
      rintro e w1 ⟨rfl, rfl⟩
      rw [HF.out, rowPtr_none]
      go_wp2_with fail
      go_ret2
      exact ⟨rfl, rfl⟩
    | some j =>
      have hlt := findE_lt page n s.entries 0 j hf
      have hj : j < s.entries.length := by omega
      obtain ⟨ge, oe, ce, hv'⟩ := H.rowAt stateR_entries (by show 0 < 3; decide) (by show 0 < s.entries.length; omega)
      rw [hv] at hv'
      cases hv'
      obtain ⟨GE, HEE, -⟩ := H.rowElem stateR_entries (by show 0 < 3; decide) hv hj
      change Here entryR w ge (oe + j * 7) s.entries[j] GE at HEE
      obtain ⟨vp, e0, e1, e2, e3, e4, e5, e6, -⟩ := entryCells HEE
      rw [hf] at hM
      simp only [List.getD_eq_getElem?_getD, List.getElem?_eq_getElem hj, Option.getD_some] at hM
      rw [hM]
      have HF := Lib.hid hf
      clear hf hM hlt
      by_cases hb : s.entries[j].closed = true
      · rw [if_pos hb]
        go_enter Try.func32, Try.ntmps32
        go_wp2_with fail
        refine (owner_any w b o s F page _ H c0).mono ?_
        rintro e w1 ⟨rfl, rfl⟩
        rw [HFO.out, rowPtr_some]
        go_wp2_with fail
        refine (entry_any w b o s F page n _ H hv).mono ?_
        rintro e w1 ⟨rfl, rfl⟩
        rw [HF.out, rowPtr_some]
        go_wp2_with fail
        go_ret2
        exact ⟨rfl, rfl⟩
      · rw [if_neg hb, rowPtr_some]
        rw [Bool.not_eq_true] at hb
        go_enter Try.func32, Try.ntmps32
        go_wp2_with fail
        refine (owner_any w b o s F page _ H c0).mono ?_
        rintro e w1 ⟨rfl, rfl⟩
        rw [HFO.out, rowPtr_some]
        go_wp2_with fail
        refine (entry_any w b o s F page n _ H hv).mono ?_
        rintro e w1 ⟨rfl, rfl⟩
        rw [HF.out, rowPtr_some]
        go_wp2_with fail
        go_ret2
        exact ⟨rfl, rfl⟩

set_option maxHeartbeats 1600000 in
set_option maxRecDepth 100000 in
theorem claim_any (w : World) (b o : Nat) (s : State) (F : List Nat) (page : ByteArray) (ep : Int) (H : Here stateR w b o s F) (hs : page.size ≤ 9223372036854775807) (hl : Few s.owners.length) :
    Calls Try.prog 12 #[.pointer (some ⟨b, o, none⟩), .string page, .int .i64 ep] w fun e w' => e = .returned (.int .i64 (claimM s page ep).1) ∧ Post stateR w b o (claimM s page ep).2 F w' := by
  have HS := Lib.hid hs
  clear hs
  by_cases hn : 1 ≤ page.size ∧ page.size ≤ 200
  · have hd : decide (1 ≤ page.size ∧ page.size ≤ 200) = true := by simpa using hn
    by_cases he : ep < 1
    · have hM : claimM s page ep = (1, s) := by unfold claimM; rw [if_pos (.inr he)]
      rw [hM]
      show Calls _ _ _ _ fun e w' => e = .returned (.int .i64 1) ∧ Post stateR w b o s F w'
      have hd2 : decide (ep < 1) = true := by simpa using he
      clear hn hM he
      go_enter Try.func12, Try.ntmps12
      go_wp2_with fail
      refine (named_any page w HS.out).mono ?_
      rintro e w1 ⟨rfl, rfl⟩
      rw [hd]
      go_wp2_with fail
      go_ret
      exact ⟨rfl, H.same (.refl _ _)⟩
    have hd2 : decide (ep < 1) = false := by simpa using he
    obtain ⟨v0, v1, v2, c0, -⟩ := stateCells H
    cases hf : findO page s.owners 0 with
    | none =>
      have hM : claimM s page ep = (0, { s with owners := s.owners ++ [⟨page, ep⟩] }) := by unfold claimM; rw [if_neg (by rintro (h | h); exact h hn; exact he h), hf]
      rw [hM]
      show Calls _ _ _ _ fun e w' => e = .returned (.int .i64 0) ∧ Post stateR w b o { s with owners := s.owners ++ [⟨page, ep⟩] } F w'
      have HF := Lib.hid hf
      have HE := Lib.hid elem_owner
      obtain ⟨p, cap, xs, Fs, Fr, d0, hopen, fz, haft, hfin⟩ := H.fieldAppending stateR_owners (by show 0 < 3; decide)
      rw [Nat.add_zero] at d0 fz haft hfin
      rw [c0] at d0
      cases d0
      have HAFT := Lib.hid haft
      have HFIN := Lib.hid hfin
      have hrowA := hopen.row.alloc (.cells #[.string page, .int .i64 ep] 67)
      have hchA := Chg.alloc (fun _ => False) w (.cells #[.string page, .int .i64 ep] 67)
      have hlt := H.lt.1
      clear hn hM hf haft hfin he
      go_enter Try.func12, Try.ntmps12
      go_wp2_with fail
      refine (named_any page w HS.out).mono ?_
      rintro e w1 ⟨rfl, rfl⟩
      rw [hd]
      go_wp2_with fail
      refine (owner_any w b o s F page _ H c0).mono ?_
      rintro e w1 ⟨rfl, rfl⟩
      rw [HF.out, rowPtr_none]
      go_wp2_with (first
        | (at_builtin; refine list_append_elem rfl (.tmp 24) (.tmp 28) 23 rfl 67 2 24 Try.underlying23 HE.out (by decide) _ s.owners.length xs.flatten rfl hrowA [.string page, .int .i64 ep] rfl w.heap.size 67 (0, 0) rfl (alloc_block w _) (by simp [Value.oneCell']) (by have := hl.lt; unfold maxLen; omega) (by have := hl.lt; omega) ?_; intro a3 n3 c3 w3 hrow3 hchg3 hold3; obtain ⟨cc3, f3⟩ := HAFT.out _ _ hchA hchg3))
      go_ret
      exact ⟨rfl, HFIN.out _ _ [.string page, .int .i64 ep] ⟨page, ep⟩ [] _ hchA ⟨rfl, rfl⟩ (by simp) (by simp) hrow3 hchg3 hold3⟩
    | some i =>
      have hlt := findO_lt page s.owners 0 i hf
      have hi : i < s.owners.length := by omega
      obtain ⟨g, off, cap, hv'⟩ := H.rowAt stateR_owners (by show 0 < 3; decide) (by show 0 < s.owners.length; omega)
      rw [Nat.add_zero] at hv'
      rw [c0] at hv'
      cases hv'
      obtain ⟨G, HO, hgb, -, -, hback⟩ := H.rowElem stateR_owners (by show 0 < 3; decide) (by rw [Nat.add_zero]; exact c0) hi
      change Here ownerR w g (off + i * 2) s.owners[i] G at HO
      obtain ⟨o0, o1⟩ := ownerCells HO
      have fz := HO.frozen (off + i * 2 + 1)
      have HF := Lib.hid hf
      by_cases hlt2 : ep < s.owners[i].epoch
      · have hM : claimM s page ep = (14, s) := by unfold claimM; rw [if_neg (by rintro (h | h); exact h hn; exact he h), hf]; simp [hi, hlt2]
        rw [hM]
        show Calls _ _ _ _ fun e w' => e = .returned (.int .i64 14) ∧ Post stateR w b o s F w'
        have hd3 : decide (ep < s.owners[i].epoch) = true := by simpa using hlt2
        clear hn hM hf he hlt hlt2
        go_enter Try.func12, Try.ntmps12
        go_wp2_with fail
        refine (named_any page w HS.out).mono ?_
        rintro e w1 ⟨rfl, rfl⟩
        rw [hd]
        go_wp2_with fail
        refine (owner_any w b o s F page _ H c0).mono ?_
        rintro e w1 ⟨rfl, rfl⟩
        rw [HF.out, rowPtr_some]
        go_wp2_with fail
        go_ret
        exact ⟨rfl, H.same (.refl _ _)⟩
      · have hM : claimM s page ep = (0, { s with owners := s.owners.set i { s.owners[i] with epoch := ep } }) := by unfold claimM; rw [if_neg (by rintro (h | h); exact h hn; exact he h), hf]; simp [hi, hlt2]
        rw [hM]
        show Calls _ _ _ _ fun e w' => e = .returned (.int .i64 0) ∧ Post stateR w b o { s with owners := s.owners.set i { s.owners[i] with epoch := ep } } F w'
        have hd3 : decide (ep < s.owners[i].epoch) = false := by simpa using hlt2
        obtain ⟨G2, HO2, hs2⟩ := HO.setField ownerR_epoch (y := ep) (v := .int .i64 ep) rfl
        have HP := Lib.hid (hback _ _ _ HO2 hs2).1
        clear hn hM hf he hlt hlt2 hback HO2 hs2
        go_enter Try.func12, Try.ntmps12
        go_wp2_with fail
        refine (named_any page w HS.out).mono ?_
        rintro e w1 ⟨rfl, rfl⟩
        rw [hd]
        go_wp2_with fail
        refine (owner_any w b o s F page _ H c0).mono ?_
        rintro e w1 ⟨rfl, rfl⟩
        rw [HF.out, rowPtr_some]
        go_wp2_with fail
        go_ret
        exact ⟨rfl, HP.out⟩
  · have hd : decide (1 ≤ page.size ∧ page.size ≤ 200) = false := by simpa using hn
    have hM : claimM s page ep = (1, s) := by unfold claimM; rw [if_pos (.inl hn)]
    rw [hM]
    show Calls _ _ _ _ fun e w' => e = .returned (.int .i64 1) ∧ Post stateR w b o s F w'
    clear hn hM
    go_enter Try.func12, Try.ntmps12
    go_wp2_with fail
    refine (named_any page w HS.out).mono ?_
    rintro e w1 ⟨rfl, rfl⟩
    rw [hd]
    go_wp2_with fail
    go_ret
    exact ⟨rfl, H.same (.refl _ _)⟩
end Go.Proofs.Ytaacafdlklnegaa
