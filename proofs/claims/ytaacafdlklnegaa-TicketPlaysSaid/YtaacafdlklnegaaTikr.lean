/-
  formed: whether a state is well formed.
-/
import Derived.Test.YtaacafdlklnegaaTikp
import Derived.Test.YtaacafdlklnegaaLater
import Derived.Deep.CutBlock
import Derived.LaidEqlPtr
namespace Go.Proofs.Ytaacafdlklnegaa
open Go.RowKit
set_option linter.unusedVariables false

theorem run_neq_ptr_same {P : Program} (w : World) {tp te : TypeId} {j : TypeInfo} (a : Addr) (hp : P.underlying tp = some (.pointer te)) (hte : P.info? te = some j) :
    (binOp .neq tp (.pointer (some a)) (.pointer (some a))).run P w = .ok (.bool false) w := by
  have h : ∀ d : Nat, (Op.equalIn (d + 1) tp (.pointer (some a)) (.pointer (some a))).run P w = .ok true w := fun d => by
    simp [Op.equalIn, run_underlying hp, sizeOf, typeInfo, hte, run_sameAddr_same]
  simp only [binOp]
  simp [Op.equal, Op.maxDepth, h 9999]
theorem run_neq_ptr_other {P : Program} (w : World) {tp te : TypeId} {j : TypeInfo} {a b : Addr} {ca cb : Array Value} {ta tb : TypeId} (hp : P.underlying tp = some (.pointer te)) (hte : P.info? te = some j) (hsz : j.size ≠ 0)
    (hne : a ≠ b) (ha : w.heap[a.block]? = some (.cells ca ta (0, 0))) (hb : w.heap[b.block]? = some (.cells cb tb (0, 0))) :
    (binOp .neq tp (.pointer (some a)) (.pointer (some b))).run P w = .ok (.bool true) w := by
  have h : ∀ d : Nat, (Op.equalIn (d + 1) tp (.pointer (some a)) (.pointer (some b))).run P w = .ok false w := fun d => by
    simp [Op.equalIn, run_underlying hp, sizeOf, typeInfo, hte, hsz, run_sameAddr_other w hne ha hb]
  simp only [binOp]
  simp [Op.equal, Op.maxDepth, h 9999]
/-- The block of a row. -/
theorem RowAt.blockOf {w : World} {e size g off n cap m : Nat} {xs : List Value} (h : RowAt w e size (.slice (some ⟨g, off, none⟩) n cap) m xs) : ∃ cur, w.heap[g]? = some (.cells cur e (0, 0)) := by
  rcases h.2 with ⟨hv, _⟩ | ⟨g', off', cap', cur, hv, hg, _⟩
  · simp at hv
  · simp only [Value.slice.injEq, Option.some.injEq, Addr.mk.injEq] at hv
    obtain ⟨⟨rfl, _⟩, _⟩ := hv
    exact ⟨cur, hg⟩
/-- Two places of a row compared. -/
theorem row_neq {P : Program} {w : World} {e size g off n cap m : Nat} {xs : List Value} (h : RowAt w e size (.slice (some ⟨g, off, none⟩) n cap) m xs) {tp te : TypeId} {z b : Nat} (hp : P.underlying tp = some (.pointer te)) (hE : Elem P te z b) (hz : z ≠ 0) (i j : Nat) :
    (binOp .neq tp (.pointer (some ⟨g, i, none⟩)) (.pointer (some ⟨g, j, none⟩))).run P w = .ok (.bool (decide (i ≠ j))) w := by
  obtain ⟨cur, hg⟩ := h.blockOf
  obtain ⟨inf, zr, hi, -, hs, -, -⟩ := hE
  by_cases hij : i = j
  · subst hij
    rw [run_neq_ptr_same w ⟨g, i, none⟩ hp hi]
    simp
  · rw [run_neq_ptr_other w hp hi (by rw [hs]; exact hz) (a := ⟨g, i, none⟩) (b := ⟨g, j, none⟩) (by simp) hg hg]
    simp [hij]

def OkO (s : State) (k : Nat) (x : Owner) : Prop := (1 ≤ x.page.size ∧ x.page.size ≤ 200) ∧ 1 ≤ x.epoch ∧ findO x.page s.owners 0 = some k
def OkE (s : State) (k : Nat) (x : Entry) : Prop := (1 ≤ x.page.size ∧ x.page.size ≤ 200) ∧ 1 ≤ x.number ∧ 0 ≤ x.acked ∧ (x.closed = true → x.pieces = []) ∧ s.sent[k]? = some x.request ∧ findE x.page x.number s.entries 0 = some k
structure AllOk (s : State) : Prop where
  len : s.sent.length = s.entries.length
  os : ∀ (k : Nat) (h : k < s.owners.length), OkO s k s.owners[k]
  es : ∀ (k : Nat) (h : k < s.entries.length), OkE s k s.entries[k]
theorem findO_self (s : State) (k : Nat) (h : k < s.owners.length) : ∃ j, findO s.owners[k].page s.owners 0 = some j ∧ j ≤ k := by
  suffices ∀ (l : List Owner) (m k : Nat) (h : k < l.length), ∃ j, findO l[k].page l m = some j ∧ j ≤ m + k by
    obtain ⟨j, h1, h2⟩ := this s.owners 0 k h
    exact ⟨j, h1, by omega⟩
  intro l
  induction l with
  | nil => intro m k h; simp at h
  | cons x l ih =>
    intro m k h
    cases k with
    | zero => exact ⟨m, by rw [findO, if_pos (by simp)], by omega⟩
    | succ k =>
      rw [findO]
      split
      · exact ⟨m, rfl, by omega⟩
      · obtain ⟨j, h1, h2⟩ := ih (m + 1) k (by simpa using h)
        exact ⟨j, by simpa using h1, by omega⟩
theorem findE_self (s : State) (k : Nat) (h : k < s.entries.length) : ∃ j, findE s.entries[k].page s.entries[k].number s.entries 0 = some j ∧ j ≤ k := by
  suffices ∀ (l : List Entry) (m k : Nat) (h : k < l.length), ∃ j, findE l[k].page l[k].number l m = some j ∧ j ≤ m + k by
    obtain ⟨j, h1, h2⟩ := this s.entries 0 k h
    exact ⟨j, h1, by omega⟩
  intro l
  induction l with
  | nil => intro m k h; simp at h
  | cons x l ih =>
    intro m k h
    cases k with
    | zero => exact ⟨m, by rw [findE, if_pos (by simp)], by omega⟩
    | succ k =>
      rw [findE]
      split
      · exact ⟨m, rfl, by omega⟩
      · obtain ⟨j, h1, h2⟩ := ih (m + 1) k (by simpa using h)
        exact ⟨j, by simpa using h1, by omega⟩
/-- What formed answers. -/
def Says (P : Prop) (w : World) (e : Ending) (w' : World) : Prop := ∃ β : Bool, e = .returned (.bool β) ∧ (β = true ↔ P) ∧ Chg (fun _ => False) w w'
theorem Says.yes {P : Prop} {w w' : World} (h : P) (hc : Chg (fun _ => False) w w') : Says P w (.returned (.bool true)) w' := ⟨true, rfl, by simp [h], hc⟩
theorem Says.no {P : Prop} {w w' : World} (h : ¬ P) (hc : Chg (fun _ => False) w w') : Says P w (.returned (.bool false)) w' := ⟨false, rfl, by simp [h], hc⟩
structure PagesOk (s : State) : Prop where
  os : ∀ x ∈ s.owners, x.page.size ≤ 9223372036854775807
  es : ∀ x ∈ s.entries, x.page.size ≤ 9223372036854775807



set_option maxHeartbeats 6400000 in
set_option maxRecDepth 100000 in
theorem formed_any (w : World) (v0 v1 v2 : Value) (s : State) (F : List Nat) (H : stateR.own w [v0, v1, v2] s F) (hF : F.Nodup) (hz : PagesOk s) :
    Calls Try.prog 41 #[.agg #[v0, v1, v2]] w (Says (AllOk s) w) := by
  have HW0 := Here.made (A := stateR) w 27 _ s F H hF
  have hcA := Chg.alloc (fun _ => False) w (.cells #[v0, v1, v2] 27)
  obtain ⟨_, _, _, F0, F1, F2, hv, r0, r1, r2, -⟩ := H
  cases hv
  obtain ⟨xs0, Fs0, op0⟩ := Rep.opened r0
  obtain ⟨xs1, Fs1, op1⟩ := Rep.opened r1
  have hsent := seen_strs r2
  obtain ⟨p0, e0, rfl, l0, m0⟩ := op0.val
  obtain ⟨p1, e1, rfl, l1, m1⟩ := op1.val
  have HS := Lib.hid hsent
  obtain ⟨p2, e2, rfl, l2, m2, -⟩ := hsent
  rw [List.length_map] at *
  have HZ := Lib.hid hz
  have L0 : (s.owners.length : Int) ≤ 9223372036854775807 := by unfold maxLen at m0; omega
  have L1 : (s.entries.length : Int) ≤ 9223372036854775807 := by unfold maxLen at m1; omega
  clear hz l0 m0 l1 m1 l2 m2 r0 r1 r2 hF
  by_cases hlen : s.sent.length = s.entries.length
  · rw [hlen] at HS hcA HW0 ⊢
    have HLEN := Lib.hid hlen
    clear hlen
    go_enter Try.func41, Try.ntmps41
    go_wp2_with fail
    generalize hn : w.heap.size = n at *
    have HN := Lib.hid hn
    clear hn
    have e0' : (w.alloc (.cells #[.slice p0 s.owners.length e0, .slice p1 s.entries.length e1, .slice p2 s.entries.length e2] 27)).cell? ⟨n, 0, none⟩ = some (.slice p0 s.owners.length e0) := by
      have := alloc_block w (.cells #[.slice p0 s.owners.length e0, .slice p1 s.entries.length e1, .slice p2 s.entries.length e2] 27)
      rw [HN.out] at this
      exact cell_of_block (i := 0) this rfl
    have e1' : (w.alloc (.cells #[.slice p0 s.owners.length e0, .slice p1 s.entries.length e1, .slice p2 s.entries.length e2] 27)).cell? ⟨n, 1, none⟩ = some (.slice p1 s.entries.length e1) := by
      have := alloc_block w (.cells #[.slice p0 s.owners.length e0, .slice p1 s.entries.length e1, .slice p2 s.entries.length e2] 27)
      rw [HN.out] at this
      exact cell_of_block (i := 1) this rfl
    have e2' : (w.alloc (.cells #[.slice p0 s.owners.length e0, .slice p1 s.entries.length e1, .slice p2 s.entries.length e2] 27)).cell? ⟨n, 2, none⟩ = some (.slice p2 s.entries.length e2) := by
      have := alloc_block w (.cells #[.slice p0 s.owners.length e0, .slice p1 s.entries.length e1, .slice p2 s.entries.length e2] 27)
      rw [HN.out] at this
      exact cell_of_block (i := 2) this rfl
    generalize w.alloc (.cells #[.slice p0 s.owners.length e0, .slice p1 s.entries.length e1, .slice p2 s.entries.length e2] 27) = w1 at *
    go_loopw [17] (fun i wr => ∃ k : Nat, k ≤ s.owners.length ∧ i = .int .i64 k ∧ Chg (fun _ => False) w1 wr ∧ Hid (∀ (j : Nat) (h : j < s.owners.length), j < k → OkO s j s.owners[j])) (fun i _ => s.owners.length - (intOf i).toNat)
    case atStart => exact ⟨0, Nat.zero_le _, rfl, .refl _ _, Lib.hid (fun j _ h => absurd h (by omega))⟩
    case round =>
      obtain ⟨k, hk, rfl, hch, HO⟩ := hrel
      by_cases hlt : k < s.owners.length
      · obtain ⟨g, off, cap', hv', _, _, _, _, hat⟩ := ((op0.still hcA).still hch).at (by omega)
        simp only [Value.slice.injEq] at hv'
        obtain ⟨rfl, _, rfl⟩ := hv'
        obtain ⟨x, G, ⟨rfl, _⟩, _, hcells⟩ := hat k hlt
        have c0 : wr.cell? ⟨g, off + k * 2 + 0, none⟩ = some (.string s.owners[k].page) := hcells 0 _ rfl
        have c1 : wr.cell? ⟨g, off + k * 2 + 1, none⟩ = some (.int .i64 s.owners[k].epoch) := hcells 1 _ rfl
        rw [Nat.add_zero] at c0
        have h0' : (0 : Int) ≤ (k : Int) := Int.natCast_nonneg _
        have h3 : (k : Int) < (s.owners.length : Int) := by omega
        have hp : s.owners[k].page.size ≤ 9223372036854775807 := HZ.out.os _ (List.getElem_mem hlt)
        obtain ⟨j, hj, hjk⟩ := findO_self s k hlt
        have HX : Hid (OkO s k s.owners[k] ↔ (1 ≤ s.owners[k].page.size ∧ s.owners[k].page.size ≤ 200) ∧ 1 ≤ s.owners[k].epoch ∧ j = k) := Lib.hid (by unfold OkO; rw [hj]; simp)
        have HOK : Hid (∀ (a : AllOk s), OkO s k s.owners[k]) := Lib.hid (fun a => a.os k hlt)
        have HNX : Hid (OkO s k s.owners[k] → ∀ (i : Nat) (h : i < s.owners.length), i < k + 1 → OkO s i s.owners[i]) := Lib.hid (fun hx i hi h => by
          by_cases e : i = k
          · subst e; exact hx
          · exact HO.out i hi (by omega))
        clear hcells hat
        generalize s.owners[k] = x at *
        go_upto_region 6 with fail
        have hgq := alloc_block wr (.cells #[.string x.page, .int .i64 x.epoch] 67)
        have hcq := Chg.alloc (fun _ => False) wr (.cells #[.string x.page, .int .i64 x.epoch] 67)
        generalize wr.alloc (.cells #[.string x.page, .int .i64 x.epoch] 67) = wq at *
        have HC := hch.trans' hcq
        have q0 : ∀ y : Later wq, y.at_.cell? ⟨wr.heap.size, 0, none⟩ = some (.string x.page) := Later.cell (cell_of_block (i := 0) hgq rfl)
        have q1 : ∀ y : Later wq, y.at_.cell? ⟨wr.heap.size, 1, none⟩ = some (.int .i64 x.epoch) := Later.cell (cell_of_block (i := 1) hgq rfl)
        have q2 : ∀ y : Later wq, y.at_.cell? ⟨n, 0, none⟩ = some (.slice (some ⟨g, off, none⟩) s.owners.length e0) := Later.cell (HC.cell e0')
        have HOWN : Hid (∀ y : Later wq, Calls Try.prog 30 #[.pointer (some ⟨n, 0, none⟩), .string x.page] y.at_ fun e w' => e = .returned (.pointer (some ⟨g, off + j * 2, none⟩)) ∧ Chg (fun _ => False) y.at_ w') := Lib.hid (fun y => by
          have := owner_any y.at_ n 0 s F x.page _ (HW0.still (HC.trans' y.chg)) (q2 y)
          rw [hj, rowPtr_some] at this
          exact this.mono (fun _ _ ⟨a, b⟩ => ⟨a, b ▸ .refl _ _⟩))
        have hnamed := fun (y : Later wq) => (named_any x.page y.at_ hp).mono (fun e w' h => (⟨h.1, h.2 ▸ .refl _ _⟩ : e = .returned (.bool (decide (1 ≤ x.page.size ∧ x.page.size ≤ 200))) ∧ Chg (fun _ => False) y.at_ w'))
        have hNE : ∀ y : Later wq, (binOp .neq 73 (.pointer (some ⟨g, off + j * 2, none⟩)) (.pointer (some ⟨g, off + k * 2, none⟩))).run Try.prog y.at_ = .ok (.bool (decide (off + j * 2 ≠ off + k * 2))) y.at_ :=
          fun y => row_neq (((op0.still hcA).still HC).still y.chg).row Try.underlying73 elem_owner (by decide) _ _
        clear c0 c1 hgq hcq hch hp
        by_cases hn1 : 1 ≤ x.page.size ∧ x.page.size ≤ 200
        · rw [decide_eq_true hn1] at hnamed
          have HNAM := Lib.hid hnamed
          clear hnamed
          by_cases he1 : x.epoch < 1
          · have hd1 : decide (x.epoch < 1) = true := by simpa using he1
            have HE1 := Lib.hid he1
            clear he1 hn1 hj
            refine wp_region_later (by kernel_rfl) (by kernel_rfl) ?_
            repeat (go_big_quiet_step ((first | (go_at_call 29; exact Later.call (HNAM.out _)) | (go_at_call 30; exact Later.call (HOWN.out _)))))
            refine wpQuiet_nil ?_
            rintro _ ⟨y, rfl⟩
            go_wp2_with fail
            go_ret
            exact Says.no (fun a => by have := (HX.out.1 (HOK.out a)).2.1; have := HE1.out; omega) ((hcA.trans' HC).trans' y.chg)
          · have hd1 : decide (x.epoch < 1) = false := by simpa using he1
            by_cases hjk2 : j = k
            · have HNXT := Lib.hid (HNX.out (HX.out.2 ⟨hn1, by omega, hjk2⟩))
              subst hjk2
              simp only [ne_eq, not_true_eq_false, decide_false] at hNE
              clear he1 hn1 hj hjk
              refine wp_region_later (by kernel_rfl) (by kernel_rfl) ?_
              repeat (go_big_quiet_step ((first | (go_at_call 29; exact Later.call (HNAM.out _)) | (go_at_call 30; exact Later.call (HOWN.out _)))))
              refine wpQuiet_nil ?_
              rintro _ ⟨y, rfl⟩
              go_wp2_with fail
              go_roundw
              case rel => exact ⟨j + 1, by omega, by go_num, HC.trans' y.chg, HNXT⟩
              case measure => simp [intOf]; omega
            · rw [show decide (off + j * 2 ≠ off + k * 2) = true from by simp; omega] at hNE
              have HJK := Lib.hid hjk2
              clear he1 hn1 hj hjk hjk2
              refine wp_region_later (by kernel_rfl) (by kernel_rfl) ?_
              repeat (go_big_quiet_step ((first | (go_at_call 29; exact Later.call (HNAM.out _)) | (go_at_call 30; exact Later.call (HOWN.out _)))))
              refine wpQuiet_nil ?_
              rintro _ ⟨y, rfl⟩
              go_wp2_with fail
              go_ret
              exact Says.no (fun a => HJK.out (HX.out.1 (HOK.out a)).2.2) ((hcA.trans' HC).trans' y.chg)
        · rw [decide_eq_false hn1] at hnamed
          have HNAM := Lib.hid hnamed
          have HN1 := Lib.hid hn1
          clear hnamed hn1 hj
          refine wp_region_later (by kernel_rfl) (by kernel_rfl) ?_
          repeat (go_big_quiet_step ((first | (go_at_call 29; exact Later.call (HNAM.out _)) | (go_at_call 30; exact Later.call (HOWN.out _)))))
          refine wpQuiet_nil ?_
          rintro _ ⟨y, rfl⟩
          go_wp2_with fail
          go_ret
          exact Says.no (fun a => HN1.out (HX.out.1 (HOK.out a)).1) ((hcA.trans' HC).trans' y.chg)
      · obtain rfl : k = s.owners.length := by omega
        have HOS : Hid (∀ (j : Nat) (h : j < s.owners.length), OkO s j s.owners[j]) := Lib.hid (fun j h => HO.out j h h)
        have f1 := hch.cell e1'
        go_wp2_with fail
        go_loopw [45] (fun i wr' => ∃ k : Nat, k ≤ s.entries.length ∧ i = .int .i64 k ∧ Chg (fun _ => False) w1 wr' ∧ Hid (∀ (j : Nat) (h : j < s.entries.length), j < k → OkE s j s.entries[j])) (fun i _ => s.entries.length - (intOf i).toNat)
        case atStart => exact ⟨0, Nat.zero_le _, rfl, hch, Lib.hid (fun j _ h => absurd h (by omega))⟩
        case round =>
          clear hch f1
          obtain ⟨k, hk, rfl, hch, HE⟩ := hrel
          by_cases hlt : k < s.entries.length
          · obtain ⟨g, off, cap', hv', _, _, _, _, hat⟩ := ((op1.still hcA).still hch).at (by omega)
            simp only [Value.slice.injEq] at hv'
            obtain ⟨rfl, _, rfl⟩ := hv'
            obtain ⟨x, G, ⟨vp, Fp, rfl, hpp, _⟩, _, hcells⟩ := hat k hlt
            obtain ⟨ys, Ys, hpo⟩ := Rep.opened hpp
            obtain ⟨pa, pc, rfl, lp, mp⟩ := hpo.val
            have lp2 : (s.entries[k].pieces.length : Int) ≤ 9223372036854775807 := by unfold maxLen at mp; omega
            have c0 : wr.cell? ⟨g, off + k * 7 + 0, none⟩ = some (.string s.entries[k].page) := hcells 0 _ rfl
            have c1 : wr.cell? ⟨g, off + k * 7 + 1, none⟩ = some (.int .i64 s.entries[k].number) := hcells 1 _ rfl
            have c2 : wr.cell? ⟨g, off + k * 7 + 2, none⟩ = some (.string s.entries[k].request) := hcells 2 _ rfl
            have c3 : wr.cell? ⟨g, off + k * 7 + 3, none⟩ = some (.slice pa s.entries[k].pieces.length pc) := hcells 3 _ rfl
            have c4 : wr.cell? ⟨g, off + k * 7 + 4, none⟩ = some (.int .i64 s.entries[k].acked) := hcells 4 _ rfl
            have c5 : wr.cell? ⟨g, off + k * 7 + 5, none⟩ = some (.bool s.entries[k].ended) := hcells 5 _ rfl
            have c6 : wr.cell? ⟨g, off + k * 7 + 6, none⟩ = some (.bool s.entries[k].closed) := hcells 6 _ rfl
            rw [Nat.add_zero] at c0
            have hlt2 : k < s.sent.length := by rw [HLEN.out]; exact hlt
            obtain ⟨g2, off2, rfl, cs⟩ := (HS.out.still hcA).ptr hch (k := k) (u := .string s.sent[k]) (by simp [hlt2])
            have h0' : (0 : Int) ≤ (k : Int) := Int.natCast_nonneg _
            have h3 : (k : Int) < (s.entries.length : Int) := by omega
            have hp : s.entries[k].page.size ≤ 9223372036854775807 := HZ.out.es _ (List.getElem_mem hlt)
            obtain ⟨j, hj, hjk⟩ := findE_self s k hlt
            have HX : Hid (OkE s k s.entries[k] ↔ (1 ≤ s.entries[k].page.size ∧ s.entries[k].page.size ≤ 200) ∧ 1 ≤ s.entries[k].number ∧ 0 ≤ s.entries[k].acked ∧ (s.entries[k].closed = true → s.entries[k].pieces = []) ∧ s.sent[k] = s.entries[k].request ∧ j = k) := Lib.hid (by
              unfold OkE; rw [hj, List.getElem?_eq_getElem hlt2]; simp only [Option.some.injEq])
            have HOK : Hid (∀ (a : AllOk s), OkE s k s.entries[k]) := Lib.hid (fun a => a.es k hlt)
            have HNX : Hid (OkE s k s.entries[k] → ∀ (i : Nat) (h : i < s.entries.length), i < k + 1 → OkE s i s.entries[i]) := Lib.hid (fun hx i hi h => by
              by_cases e : i = k
              · subst e; exact hx
              · exact HE.out i hi (by omega))
            clear hcells hat hpp hpo lp mp
            generalize s.sent[k] = xs at *
            generalize s.entries[k] = x at *
            obtain ⟨xp, xn, xr, xl, xa, xe, xc⟩ := x
            dsimp only at c0 c1 c2 c3 c4 c5 c6 hj hp HX lp2
            go_upto_region 12 with fail
            have hgq := alloc_block wr (.cells #[.string xp, .int .i64 xn, .string xr, .slice pa xl.length pc, .int .i64 xa, .bool xe, .bool xc] 69)
            have hcq := Chg.alloc (fun _ => False) wr (.cells #[.string xp, .int .i64 xn, .string xr, .slice pa xl.length pc, .int .i64 xa, .bool xe, .bool xc] 69)
            generalize wr.alloc (.cells #[.string xp, .int .i64 xn, .string xr, .slice pa xl.length pc, .int .i64 xa, .bool xe, .bool xc] 69) = wq at *
            have HC := hch.trans' hcq
            have q0 : ∀ y : Later wq, y.at_.cell? ⟨wr.heap.size, 0, none⟩ = some (.string xp) := Later.cell (cell_of_block (i := 0) hgq rfl)
            have q1 : ∀ y : Later wq, y.at_.cell? ⟨wr.heap.size, 1, none⟩ = some (.int .i64 xn) := Later.cell (cell_of_block (i := 1) hgq rfl)
            have q2 : ∀ y : Later wq, y.at_.cell? ⟨wr.heap.size, 2, none⟩ = some (.string xr) := Later.cell (cell_of_block (i := 2) hgq rfl)
            have q3 : ∀ y : Later wq, y.at_.cell? ⟨wr.heap.size, 3, none⟩ = some (.slice pa xl.length pc) := Later.cell (cell_of_block (i := 3) hgq rfl)
            have q4 : ∀ y : Later wq, y.at_.cell? ⟨wr.heap.size, 4, none⟩ = some (.int .i64 xa) := Later.cell (cell_of_block (i := 4) hgq rfl)
            have q6 : ∀ y : Later wq, y.at_.cell? ⟨wr.heap.size, 6, none⟩ = some (.bool xc) := Later.cell (cell_of_block (i := 6) hgq rfl)
            have q7 : ∀ y : Later wq, y.at_.cell? ⟨n, 1, none⟩ = some (.slice (some ⟨g, off, none⟩) s.entries.length e1) := Later.cell (HC.cell e1')
            have q8 : ∀ y : Later wq, y.at_.cell? ⟨n, 2, none⟩ = some (.slice (some ⟨g2, off2, none⟩) s.entries.length e2) := Later.cell (HC.cell e2')
            have q9 : ∀ y : Later wq, y.at_.cell? ⟨g2, off2 + k, none⟩ = some (.string xs) := Later.cell (hcq.cell cs)
            have HENT : Hid (∀ y : Later wq, Calls Try.prog 31 #[.pointer (some ⟨n, 0, none⟩), .string xp, .int .i64 xn] y.at_ fun e w' => e = .returned (.pointer (some ⟨g, off + j * 7, none⟩)) ∧ Chg (fun _ => False) y.at_ w') := Lib.hid (fun y => by
              have := entry_any y.at_ n 0 s F xp xn _ (HW0.still (HC.trans' y.chg)) (q7 y)
              rw [hj, rowPtr_some] at this
              exact this.mono (fun _ _ ⟨a, b⟩ => ⟨a, b ▸ .refl _ _⟩))
            have hnamed := fun (y : Later wq) => (named_any xp y.at_ hp).mono (fun e w' h => (⟨h.1, h.2 ▸ .refl _ _⟩ : e = .returned (.bool (decide (1 ≤ xp.size ∧ xp.size ≤ 200))) ∧ Chg (fun _ => False) y.at_ w'))
            have hNE : ∀ y : Later wq, (binOp .neq 75 (.pointer (some ⟨g, off + j * 7, none⟩)) (.pointer (some ⟨g, off + k * 7, none⟩))).run Try.prog y.at_ = .ok (.bool (decide (off + j * 7 ≠ off + k * 7))) y.at_ :=
              fun y => row_neq (((op1.still hcA).still HC).still y.chg).row Try.underlying75 elem_entry (by decide) _ _
            clear c0 c1 c2 c3 c4 c5 c6 cs hgq hcq hch hp
            by_cases hn1 : 1 ≤ xp.size ∧ xp.size ≤ 200
            · rw [decide_eq_true hn1] at hnamed
              have HNAM := Lib.hid hnamed
              have HN1 := Lib.hid hn1
              clear hnamed hn1
              by_cases hb2 : xn < 1
              · as_aux_lemma =>
                  have hd2 : decide (xn < 1) = true := by simpa using hb2
                  have HB := Lib.hid hb2
                  clear hb2 hj hjk
                  refine wp_region_later (by kernel_rfl) (by kernel_rfl) ?_
                  repeat (go_big_quiet_step ((first | (go_at_call 29; exact Later.call (HNAM.out _)) | (go_at_call 31; exact Later.call (HENT.out _)))))
                  refine wpQuiet_nil ?_
                  rintro _ ⟨y, rfl⟩
                  go_wp2_with fail
                  go_ret
                  exact Says.no (fun a => by have := (HX.out.1 (HOK.out a)).2.1; have := HB.out; omega) ((hcA.trans' HC).trans' y.chg)
              · have hd2 : decide (xn < 1) = false := by simpa using hb2
                have HE2 : Hid (1 ≤ xn) := Lib.hid (by omega)
                clear hb2
                by_cases hb3 : xa < 0
                · as_aux_lemma =>
                    have hd3 : decide (xa < 0) = true := by simpa using hb3
                    have HB := Lib.hid hb3
                    clear hb3 hj hjk
                    refine wp_region_later (by kernel_rfl) (by kernel_rfl) ?_
                    repeat (go_big_quiet_step ((first | (go_at_call 29; exact Later.call (HNAM.out _)) | (go_at_call 31; exact Later.call (HENT.out _)))))
                    refine wpQuiet_nil ?_
                    rintro _ ⟨y, rfl⟩
                    go_wp2_with fail
                    go_ret
                    exact Says.no (fun a => by have := (HX.out.1 (HOK.out a)).2.2.1; have := HB.out; omega) ((hcA.trans' HC).trans' y.chg)
                · have hd3 : decide (xa < 0) = false := by simpa using hb3
                  have HE3 : Hid (0 ≤ xa) := Lib.hid (by omega)
                  clear hb3
                  cases xc with
                  | false =>
                    by_cases hs5 : xs = xr
                    · have hq5 : (xs.toList == xr.toList) = true := by rw [hs5]; simp
                      by_cases hjk2 : j = k
                      · as_aux_lemma =>
                          have HNXT := Lib.hid (HNX.out (HX.out.2 ⟨HN1.out, HE2.out, HE3.out, (fun h => by cases h), hs5, hjk2⟩))
                          subst hjk2
                          simp only [ne_eq, not_true_eq_false, decide_false] at hNE
                          clear hj hjk hs5
                          refine wp_region_later (by kernel_rfl) (by kernel_rfl) ?_
                          repeat (go_big_quiet_step ((first | (go_at_call 29; exact Later.call (HNAM.out _)) | (go_at_call 31; exact Later.call (HENT.out _)))))
                          refine wpQuiet_nil ?_
                          rintro _ ⟨y, rfl⟩
                          go_wp2_with fail
                          go_roundw
                          case rel => exact ⟨j + 1, by omega, by go_num, HC.trans' y.chg, HNXT⟩
                          case measure => simp [intOf]; omega
                      · as_aux_lemma =>
                          rw [show decide (off + j * 7 ≠ off + k * 7) = true from by simp; omega] at hNE
                          have HJK := Lib.hid hjk2
                          clear hj hjk hjk2 hs5
                          refine wp_region_later (by kernel_rfl) (by kernel_rfl) ?_
                          repeat (go_big_quiet_step ((first | (go_at_call 29; exact Later.call (HNAM.out _)) | (go_at_call 31; exact Later.call (HENT.out _)))))
                          refine wpQuiet_nil ?_
                          rintro _ ⟨y, rfl⟩
                          go_wp2_with fail
                          go_ret
                          exact Says.no (fun a => HJK.out (HX.out.1 (HOK.out a)).2.2.2.2.2) ((hcA.trans' HC).trans' y.chg)
                    · as_aux_lemma =>
                        have hq5 : (xs.toList == xr.toList) = false := by rw [Bool.eq_false_iff]; exact fun h => hs5 (bytesEq.1 h)
                        have HS5 := Lib.hid hs5
                        clear hj hjk hs5
                        refine wp_region_later (by kernel_rfl) (by kernel_rfl) ?_
                        repeat (go_big_quiet_step ((first | (go_at_call 29; exact Later.call (HNAM.out _)) | (go_at_call 31; exact Later.call (HENT.out _)))))
                        refine wpQuiet_nil ?_
                        rintro _ ⟨y, rfl⟩
                        go_wp2_with fail
                        go_ret
                        exact Says.no (fun a => HS5.out (HX.out.1 (HOK.out a)).2.2.2.2.1) ((hcA.trans' HC).trans' y.chg)
                  | true =>
                    cases xl with
                    | cons x0 xl' =>
                      as_aux_lemma =>
                        have hd4 : decide ((0 : Int) < ((x0 :: xl').length : Int)) = true := by simp
                        have hd4b : 0 < (x0 :: xl').length := by simp
                        generalize hzl : (x0 :: xl').length = ln at *
                        have HZL := Lib.hid hzl
                        have hd4c : decide (0 < ln) = true := by simpa using hd4b
                        clear hj hjk hzl
                        refine wp_region_later (by kernel_rfl) (by kernel_rfl) ?_
                        repeat (go_big_quiet_step ((first | (go_at_call 29; exact Later.call (HNAM.out _)) | (go_at_call 31; exact Later.call (HENT.out _)))))
                        refine wpQuiet_nil ?_
                        rintro _ ⟨y, rfl⟩
                        go_wp2_with fail
                        go_ret
                        exact Says.no (fun a => List.cons_ne_nil _ _ ((HX.out.1 (HOK.out a)).2.2.2.1 (by trivial))) ((hcA.trans' HC).trans' y.chg)
                    | nil =>
                      by_cases hs5 : xs = xr
                      · have hq5 : (xs.toList == xr.toList) = true := by rw [hs5]; simp
                        by_cases hjk2 : j = k
                        · as_aux_lemma =>
                            have HNXT := Lib.hid (HNX.out (HX.out.2 ⟨HN1.out, HE2.out, HE3.out, (fun _ => rfl), hs5, hjk2⟩))
                            subst hjk2
                            simp only [ne_eq, not_true_eq_false, decide_false] at hNE
                            clear hj hjk hs5
                            refine wp_region_later (by kernel_rfl) (by kernel_rfl) ?_
                            repeat (go_big_quiet_step ((first | (go_at_call 29; exact Later.call (HNAM.out _)) | (go_at_call 31; exact Later.call (HENT.out _)))))
                            refine wpQuiet_nil ?_
                            rintro _ ⟨y, rfl⟩
                            go_wp2_with fail
                            go_roundw
                            case rel => exact ⟨j + 1, by omega, by go_num, HC.trans' y.chg, HNXT⟩
                            case measure => simp [intOf]; omega
                        · as_aux_lemma =>
                            rw [show decide (off + j * 7 ≠ off + k * 7) = true from by simp; omega] at hNE
                            have HJK := Lib.hid hjk2
                            clear hj hjk hjk2 hs5
                            refine wp_region_later (by kernel_rfl) (by kernel_rfl) ?_
                            repeat (go_big_quiet_step ((first | (go_at_call 29; exact Later.call (HNAM.out _)) | (go_at_call 31; exact Later.call (HENT.out _)))))
                            refine wpQuiet_nil ?_
                            rintro _ ⟨y, rfl⟩
                            go_wp2_with fail
                            go_ret
                            exact Says.no (fun a => HJK.out (HX.out.1 (HOK.out a)).2.2.2.2.2) ((hcA.trans' HC).trans' y.chg)
                      · as_aux_lemma =>
                          have hq5 : (xs.toList == xr.toList) = false := by rw [Bool.eq_false_iff]; exact fun h => hs5 (bytesEq.1 h)
                          have HS5 := Lib.hid hs5
                          clear hj hjk hs5
                          refine wp_region_later (by kernel_rfl) (by kernel_rfl) ?_
                          repeat (go_big_quiet_step ((first | (go_at_call 29; exact Later.call (HNAM.out _)) | (go_at_call 31; exact Later.call (HENT.out _)))))
                          refine wpQuiet_nil ?_
                          rintro _ ⟨y, rfl⟩
                          go_wp2_with fail
                          go_ret
                          exact Says.no (fun a => HS5.out (HX.out.1 (HOK.out a)).2.2.2.2.1) ((hcA.trans' HC).trans' y.chg)
            · rw [decide_eq_false hn1] at hnamed
              have HNAM := Lib.hid hnamed
              have HN1 := Lib.hid hn1
              clear hnamed hn1 hj
              refine wp_region_later (by kernel_rfl) (by kernel_rfl) ?_
              repeat (go_big_quiet_step ((first | (go_at_call 29; exact Later.call (HNAM.out _)) | (go_at_call 31; exact Later.call (HENT.out _)))))
              refine wpQuiet_nil ?_
              rintro _ ⟨y, rfl⟩
              go_wp2_with fail
              go_ret
              exact Says.no (fun a => HN1.out (HX.out.1 (HOK.out a)).1) ((hcA.trans' HC).trans' y.chg)
          · obtain rfl : k = s.entries.length := by omega
            go_wp2_with fail
            go_ret
            exact Says.yes ⟨HLEN.out, HOS.out, fun j h => HE.out j h h⟩ (hcA.trans' hch)
  · have hq : ((s.sent.length : Int) != (s.entries.length : Int)) = true := by simp; omega
    have HLEN := Lib.hid hlen
    clear hlen
    go_enter Try.func41, Try.ntmps41
    go_wp2_with fail
    go_ret
    exact Says.no (fun a => HLEN.out a.len) hcA
end Go.Proofs.Ytaacafdlklnegaa
