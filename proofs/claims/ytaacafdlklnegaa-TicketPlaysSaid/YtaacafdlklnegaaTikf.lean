/-
  The network's side of layer 53: Take, Ack.
-/
import Derived.Test.YtaacafdlklnegaaTike
namespace Go.Proofs.Ytaacafdlklnegaa
open Go.RowKit
set_option linter.unusedVariables false

theorem seen_strs {w : World} {v : Value} {l : List ByteArray} {F : List Nat} (h : (Rep.str.row 9).own w [v] l F) : Seen w v (l.map Value.string) := by
  obtain ⟨v', h1, h2, -⟩ := row_flat.1 h
  cases h1
  rw [flatMap_one] at h2
  exact .ofRow h2
theorem own_strs {w : World} {v : Value} {l : List ByteArray} (h : RowAt w 9 1 v l.length (l.map Value.string)) : (Rep.str.row 9).own w [v] l (ownL v) := by
  refine row_flat.2 ⟨v, rfl, ?_, rfl⟩
  rw [flatMap_one]
  exact h
theorem results_tmp3 {fn : Func} {t u v : Tmp} (h : fn.results = #[.tmp t, .tmp u, .tmp v]) (tmps : Array Value) (P : Program) (w : World) :
    (results fn tmps).run P w = .ok (.tuple #[tmps.getD t undef, tmps.getD u undef, tmps.getD v undef]) w := by simp [results, h]
theorem fromM_some {s : State} {page : ByteArray} {ep n ix : Int} {j : Nat} (h : (fromM s page ep n ix).1 = some j) : ∃ hj : j < s.entries.length, (fromM s page ep n ix).2 = 0 ∧ s.entries[j].acked ≤ ix ∧ ix ≤ s.entries[j].acked + s.entries[j].pieces.length ∧ (openM s page ep n).1 = some j := by
  unfold fromM at h ⊢
  cases hr : (openM s page ep n).1 with
  | none => rw [hr] at h; cases h
  | some i =>
    obtain ⟨hi, he⟩ := openM_some hr
    rw [hr] at h
    simp only [List.getD_eq_getElem?_getD, List.getElem?_eq_getElem hi, Option.getD_some] at h ⊢
    split at h
    · cases h
    · rename_i hc
      cases h
      rw [if_neg hc]
      exact ⟨hi, rfl, by omega, by omega, rfl⟩
theorem fromM_none {s : State} {page : ByteArray} {ep n ix : Int} (h : (fromM s page ep n ix).1 = none) : (fromM s page ep n ix).2 = 6 ∨ (fromM s page ep n ix).2 = 14 ∨ (fromM s page ep n ix).2 = 2 := by
  unfold fromM at h ⊢
  cases hr : (openM s page ep n).1 with
  | none =>
    rw [hr] at h
    rcases openM_none hr with h | h
    · exact .inl h
    · exact .inr (.inl h)
  | some i =>
    rw [hr] at h
    simp only at h ⊢
    split at h
    · rename_i hc
      rw [if_pos hc]
      exact .inr (.inr rfl)
    · cases h

def takeM (s : State) (page : ByteArray) (ep n ix : Int) : List ByteArray × Bool × Int :=
  match (fromM s page ep n ix).1 with
  | none => ([], false, (fromM s page ep n ix).2)
  | some j => ((s.entries.getD j noEntry).pieces.drop (ix - (s.entries.getD j noEntry).acked).toNat, (s.entries.getD j noEntry).ended, 0)
def ackM (s : State) (page : ByteArray) (ep n ix : Int) : Int × State :=
  match (fromM s page ep n ix).1 with
  | none => ((fromM s page ep n ix).2, s)
  | some j =>
    let e := s.entries.getD j noEntry
    let ps := e.pieces.drop (ix - e.acked).toNat
    (0, s.setE j { e with pieces := ps, acked := ix, closed := e.ended && ps.isEmpty })

set_option maxHeartbeats 1600000 in
set_option maxRecDepth 100000 in
theorem take_any (w : World) (b o : Nat) (s : State) (F : List Nat) (page : ByteArray) (ep n ix : Int) (H : Here stateR w b o s F) (hl : ∀ x ∈ s.entries, EntryOk x) :
    Calls Try.prog 18 #[.pointer (some ⟨b, o, none⟩), .string page, .int .i64 ep, .int .i64 n, .int .i64 ix] w fun e w' => ∃ v', e = .returned (.tuple #[v', .bool (takeM s page ep n ix).2.1, .int .i64 (takeM s page ep n ix).2.2]) ∧ RowAt w' 9 1 v' (takeM s page ep n ix).1.length ((takeM s page ep n ix).1.map Value.string) ∧ (∀ k, v'.ownBlock = some k → w.heap.size ≤ k) ∧ Chg (fun _ => False) w w' := by
  obtain ⟨_, v1, _, _, c1, -⟩ := stateCells H
  have HR := Lib.hid (from_any w b o s F page ep n ix v1 H c1 hl)
  cases hr : (fromM s page ep n ix).1 with
  | none =>
    have hM : takeM s page ep n ix = ([], false, (fromM s page ep n ix).2) := by unfold takeM; rw [hr]
    rw [hM]
    show Calls _ _ _ _ fun e w' => ∃ v', e = .returned (.tuple #[v', .bool false, .int .i64 (fromM s page ep n ix).2]) ∧ RowAt w' 9 1 v' 0 [] ∧ (∀ k, v'.ownBlock = some k → w.heap.size ≤ k) ∧ Chg (fun _ => False) w w'
    have h0 : ((fromM s page ep n ix).2 != 0) = true := by rcases fromM_none hr with h | h | h <;> rw [h] <;> rfl
    rw [hr, rowPtr_none] at HR
    generalize (fromM s page ep n ix).2 = err at *
    clear hM hr c1
    go_enter Try.func18, Try.ntmps18
    go_wp2_with fail
    refine HR.out.mono ?_
    rintro e w1 ⟨rfl, hch⟩
    go_wp2_with fail
    (try simp only [Exit.inBlock, Exit.then])
    refine bodyPost_ret (results_tmp3 rfl _ _ _) rfl ?_
    exact ⟨_, rfl, RowAt.nil _ _ _, by simp [Value.ownBlock], hch⟩
  | some j =>
    obtain ⟨hj, he, ha1, ha2, -⟩ := fromM_some hr
    obtain ⟨g, off, cap, G, hv, HE, hback⟩ := stEntry H hj
    rw [c1] at hv
    cases hv
    have hok := hl _ (List.getElem_mem hj)
    have hM : takeM s page ep n ix = (s.entries[j].pieces.drop (ix - s.entries[j].acked).toNat, s.entries[j].ended, 0) := by unfold takeM; rw [hr]; simp [hj]
    rw [hM]
    dsimp only
    rw [hr, he, rowPtr_some] at HR
    have hw : IntKind.i64.wrap (ix - s.entries[j].acked) = ix - s.entries[j].acked := IntWalk.i64_in _ (by have := hok.few.lt; have := hok.ackFew.lt; have := hok.ack; omega)
    have hfd : Few (s.entries[j].pieces.drop (ix - s.entries[j].acked).toNat).length := ⟨by have := hok.few.lt; rw [List.length_drop]; omega⟩
    clear hM hr he hback c1
    generalize hpsd : List.drop (ix - s.entries[j].acked).toNat s.entries[j].pieces = ps at *
    have HPS := Lib.hid hpsd
    clear hpsd
    go_enter Try.func18, Try.ntmps18
    go_wp2_with fail
    refine HR.out.mono ?_
    rintro e w1 ⟨rfl, hch1⟩
    go_wp2_with fail
    have HE2 := (HE.still hch1).drew
    have hch2 : Chg (fun _ => False) w w1.drew := hch1.drewR
    obtain ⟨vp, e0, e1, e2, e3, e4, e5, e6, hp⟩ := entryCells HE2
    obtain ⟨xs, Fs, hpo⟩ := Rep.opened hp
    obtain ⟨pa, pc, rfl, hp1, hp2⟩ := hpo.val
    have hseen := seen_strs hp
    have hs2 := hseen.resl (ix - s.entries[j].acked).toNat (by omega)
    rw [← List.map_drop, HPS.out] at hs2
    have hrs := fun W => run_resl W pa s.entries[j].pieces.length pc (ix - s.entries[j].acked) (by omega) (by omega)
    generalize resl pa s.entries[j].pieces.length pc (ix - s.entries[j].acked).toNat = vs at *
    have HS := Lib.hid hs2
    have HF := Lib.hid hfd
    clear hs2 hfd hseen hpo hp HE HE2 hok ha1 ha2 HR
    go_region_held3 (fun w' => w'.cell? ⟨g, off + j * 7 + 3, none⟩ = some (.slice pa s.entries[j].pieces.length pc) ∧ w'.cell? ⟨g, off + j * 7 + 4, none⟩ = some (.int .i64 s.entries[j].acked) ∧ w'.cell? ⟨g, off + j * 7 + 5, none⟩ = some (.bool s.entries[j].ended)) (first | go_keep | exact ⟨hch.cell e3, hch.cell e4, hch.cell e5⟩)
      ((go_at_call 36; refine (clone_any _ _ _ HS.out HF.out).mono ?_; rintro x w5 ⟨v', rfl, hrow, hown, hch⟩))
    all_goals (
      go_wp2_with fail
      (try simp only [Exit.inBlock, Exit.then])
      refine bodyPost_ret (results_tmp3 rfl _ _ _) rfl ?_
      exact ⟨_, rfl, hrow, fun k hk => by have := hown k hk; have := hch2.size; omega, hch2.trans' hch⟩)

set_option maxHeartbeats 1600000 in
set_option maxRecDepth 100000 in
theorem ack_any (w : World) (b o : Nat) (s : State) (F : List Nat) (page : ByteArray) (ep n ix : Int) (H : Here stateR w b o s F) (hl : ∀ x ∈ s.entries, EntryOk x) :
    Calls Try.prog 19 #[.pointer (some ⟨b, o, none⟩), .string page, .int .i64 ep, .int .i64 n, .int .i64 ix] w fun e w' => e = .returned (.int .i64 (ackM s page ep n ix).1) ∧ Post stateR w b o (ackM s page ep n ix).2 F w' := by
  obtain ⟨_, v1, _, _, c1, -⟩ := stateCells H
  have HR := Lib.hid (from_any w b o s F page ep n ix v1 H c1 hl)
  cases hr : (fromM s page ep n ix).1 with
  | none =>
    have hM : ackM s page ep n ix = ((fromM s page ep n ix).2, s) := by unfold ackM; rw [hr]
    rw [hM]
    show Calls _ _ _ _ fun e w' => e = .returned (.int .i64 (fromM s page ep n ix).2) ∧ Post stateR w b o s F w'
    have h0 : ((fromM s page ep n ix).2 != 0) = true := by rcases fromM_none hr with h | h | h <;> rw [h] <;> rfl
    rw [hr, rowPtr_none] at HR
    generalize (fromM s page ep n ix).2 = err at *
    clear hM hr c1
    go_enter Try.func19, Try.ntmps19
    go_wp2_with fail
    refine HR.out.mono ?_
    rintro e w1 ⟨rfl, hch⟩
    go_wp2_with fail
    go_ret
    exact ⟨rfl, H.same hch⟩
  | some j =>
    obtain ⟨hj, he, ha1, ha2, -⟩ := fromM_some hr
    obtain ⟨g, off, cap, G, hv, HE, hback⟩ := stEntry H hj
    rw [c1] at hv
    cases hv
    have hok := hl _ (List.getElem_mem hj)
    have hM : ackM s page ep n ix = (0, s.setE j { s.entries[j] with pieces := s.entries[j].pieces.drop (ix - s.entries[j].acked).toNat, acked := ix, closed := s.entries[j].ended && (s.entries[j].pieces.drop (ix - s.entries[j].acked).toNat).isEmpty }) := by unfold ackM; rw [hr]; simp [hj]
    rw [hM]
    show Calls _ _ _ _ fun e w' => e = .returned (.int .i64 0) ∧ Post stateR w b o (s.setE j { s.entries[j] with pieces := s.entries[j].pieces.drop (ix - s.entries[j].acked).toNat, acked := ix, closed := s.entries[j].ended && (s.entries[j].pieces.drop (ix - s.entries[j].acked).toNat).isEmpty }) F w'
    rw [hr, he, rowPtr_some] at HR
    have hw : IntKind.i64.wrap (ix - s.entries[j].acked) = ix - s.entries[j].acked := IntWalk.i64_in _ (by have := hok.few.lt; have := hok.ackFew.lt; have := hok.ack; omega)
    have hfd : Few (s.entries[j].pieces.drop (ix - s.entries[j].acked).toNat).length := ⟨by have := hok.few.lt; rw [List.length_drop]; omega⟩
    have HB := Lib.hid hback
    clear hM hr he hback c1
    go_enter Try.func19, Try.ntmps19
    go_wp2_with fail
    refine HR.out.mono ?_
    rintro e w1 ⟨rfl, hch1⟩
    go_wp2_with fail
    have HE2 := HE.still hch1
    obtain ⟨vp, e0, e1, e2, e3, e4, e5, e6, hp⟩ := entryCells HE2
    obtain ⟨xs, Fs, hpo⟩ := Rep.opened hp
    obtain ⟨pa, pc, rfl, hp1, hp2⟩ := hpo.val
    have hrs := fun W => run_resl W pa s.entries[j].pieces.length pc (ix - s.entries[j].acked) (by omega) (by omega)
    have hseen := seen_strs hp
    have hs2 := hseen.resl (ix - s.entries[j].acked).toNat (by omega)
    rw [← List.map_drop] at hs2
    generalize resl pa s.entries[j].pieces.length pc (ix - s.entries[j].acked).toNat = vs at *
    have HS := Lib.hid hs2
    have HF := Lib.hid hfd
    have HHE := Lib.hid HE2
    clear hs2 hfd hseen hpo hp HE HE2 hok ha1 ha2 HR
    have e4d : w1.drew.cell? ⟨g, off + j * 7 + 4, none⟩ = some (.int .i64 s.entries[j].acked) := e4
    have hps : (((List.drop (ix - s.entries[j].acked).toNat s.entries[j].pieces).length : Int) == 0) = (List.drop (ix - s.entries[j].acked).toNat s.entries[j].pieces).isEmpty := by
      cases List.drop (ix - s.entries[j].acked).toNat s.entries[j].pieces with
      | nil => rfl
      | cons a l => simp; omega
    rw [List.length_drop] at hps
    have hln : ((List.drop (ix - s.entries[j].acked).toNat s.entries[j].pieces).length : Int) ≤ 9223372036854775807 := by have := HF.out.lt; omega
    have hsz : w1.heap.size = w1.drew.heap.size := rfl
    go_region_with
      ((go_at_call 36; refine (clone_any _ _ _ (HS.out.still ((Chg.refl _ w1).drewR)) HF.out).mono ?_; rintro x w5 ⟨v', rfl, hrow, hown, hch⟩; obtain ⟨pv, cv, rfl, -, -⟩ := hrow.slice; have hchE : Chg (fun _ => False) w1 w5 := ((Chg.refl _ w1).drewR).trans' hch; have HE5 := HHE.out.still hchE; obtain ⟨_, g0, g1, g2, g3, g4, g5, g6, -⟩ := entryCells HE5; have fz := fun i => HE5.frozen i))
    all_goals (
      have HP := ((HHE.out.setRow entryR_pieces (by show 0 < 7; decide) hchE (own_strs hrow) (by intro k hk; rw [hsz]; exact hown k (by simpa [ownL] using hk)) (by unfold ownL; cases (Value.slice pv (List.drop (ix - s.entries[j].acked).toNat s.entries[j].pieces).length cv).ownBlock <;> simp)).then (fun F' h' => (h'.setPost entryR_acked (y := ix) (v := .int .i64 ix) rfl).then (fun F'' h'' => h''.setPost entryR_closed (y := s.entries[j].ended && (List.drop (ix - s.entries[j].acked).toNat s.entries[j].pieces).isEmpty) (v := .bool (s.entries[j].ended && (List.drop (ix - s.entries[j].acked).toNat s.entries[j].pieces).isEmpty)) rfl)))
      have HPP := Lib.hid (HB.out _ _ (Post.pre hch1 HP))
      clear HP HB HHE HS HF hrow hown hch hchE hsz hch1 e0 e1 e2 e3 e4 e5 e6 HE5 e4d
      cases hen : s.entries[j].ended with
      | true =>
        rw [hen] at g5 HPP
        go_wp2_with fail
        go_ret
        refine ⟨rfl, ?_⟩
        have hpp := HPP.out
        simpa [hps] using hpp
      | false =>
        rw [hen] at g5 HPP
        go_wp2_with fail
        go_ret
        refine ⟨rfl, ?_⟩
        have hpp := HPP.out
        simpa [hps] using hpp)
end Go.Proofs.Ytaacafdlklnegaa
