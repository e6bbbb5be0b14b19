/-
  Few: whether calls are of a size that is tried.
-/
import Derived.Test.YtaacafdlklnegaaTikl
namespace Go.Proofs.Ytaacafdlklnegaa
open Go.RowKit
set_option linter.unusedVariables false

theorem argOp {w w' : World} {a : Option Addr} {n cap : Nat} {ops : List COp} (h : ArgRows w (.slice a n cap) 6 (ops.map COp.cells)) (hc : Chg (fun _ => False) w w') {k : Nat} (hk : k < ops.length) :
    ∃ g off, a = some ⟨g, off, none⟩ ∧ w'.cell? ⟨g, off + k * 6, none⟩ = some (.int .u8 ops[k].kind) ∧ w'.cell? ⟨g, off + k * 6 + 1, none⟩ = some (.int .u8 ops[k].page) ∧ w'.cell? ⟨g, off + k * 6 + 2, none⟩ = some (.int .i8 ops[k].epoch) ∧ w'.cell? ⟨g, off + k * 6 + 3, none⟩ = some (.int .i8 ops[k].number) ∧
      w'.cell? ⟨g, off + k * 6 + 4, none⟩ = some (.int .i8 ops[k].at_) ∧ w'.cell? ⟨g, off + k * 6 + 5, none⟩ = some (.string ops[k].text) := by
  obtain ⟨a', cap', hv, h1, h2, h3⟩ := h.keep hc
  cases hv
  obtain ⟨g, off, rfl, hcell⟩ := h3 (by intro e; have := congrArg List.length e; simp at this; rw [this] at hk; simp at hk)
  have hx : (ops.map COp.cells)[k]? = some ops[k].cells := by simp [hk]
  exact ⟨g, off, rfl, hcell k 0 _ _ hx rfl, hcell k 1 _ _ hx rfl, hcell k 2 _ _ hx rfl, hcell k 3 _ _ hx rfl, hcell k 4 _ _ hx rfl, hcell k 5 _ _ hx rfl⟩
def fewB (ops : List COp) (m : Nat) : Bool := decide (ops.length ≤ m) && ops.all fun o => decide (o.text.size ≤ 60)

set_option maxHeartbeats 800000 in
set_option maxRecDepth 100000 in
theorem few_any (w : World) (ops : List COp) (v : Value) (m : Nat) (hm : m ≤ 1000) (h : ArgRows w v 6 (ops.map COp.cells)) (ho : ∀ o ∈ ops, COpOk o) :
    Calls Try.prog 21 #[v, .int .i64 (m : Int)] w fun e w' => e = .returned (.bool (fewB ops m)) ∧ w = w' := by
  have HH := Lib.hid h
  have HO := Lib.hid ho
  obtain ⟨a, cap, rfl, h1, h2, -⟩ := h
  rw [List.length_map] at *
  have hln : (ops.length : Int) ≤ 9223372036854775807 := by unfold maxLen at h2; omega
  have HM := Lib.hid hm
  clear h1 h2 hm
  by_cases hl : ops.length ≤ m
  · have hd : decide ((m : Int) < (ops.length : Int)) = false := by simp; omega
    have HL : Hid (fewB ops m = ops.all fun o => decide (o.text.size ≤ 60)) := Lib.hid (by unfold fewB; simp [hl])
    go_enter Try.func21, Try.ntmps21
    go_wp2_with fail
    go_loopw [5] (fun i wr => ∃ k : Nat, k ≤ ops.length ∧ i = .int .i64 k ∧ w = wr ∧ Hid (fewB ops m = (ops.drop k).all fun o => decide (o.text.size ≤ 60))) (fun i _ => ops.length - (intOf i).toNat)
    case atStart => exact ⟨0, Nat.zero_le _, rfl, rfl, Lib.hid (by rw [HL.out]; rfl)⟩
    case round =>
      obtain ⟨k, hk, rfl, rfl, HK⟩ := hrel
      by_cases hlt : k < ops.length
      · obtain ⟨g, off, rfl, -, -, -, -, -, c5⟩ := argOp HH.out (.refl _ _) hlt
        have hsz := (HO.out _ (List.getElem_mem hlt)).text
        have hK := HK.out
        rw [List.drop_eq_getElem_cons hlt, List.all_cons] at hK
        have h0 : (0 : Int) ≤ (k : Int) := Int.natCast_nonneg _
        have h1 : (k : Int) < (ops.length : Int) := by omega
        generalize ops[k] = x at *
        have lx : (x.text.size : Int) ≤ 9223372036854775807 := by unfold maxLen at hsz; omega
        clear hsz
        by_cases h60 : x.text.size ≤ 60
        · have hd6 : decide ((60 : Int) < (x.text.size : Int)) = false := by simp; omega
          rw [decide_eq_true h60, Bool.true_and] at hK
          have HK2 := Lib.hid hK
          clear hK h60
          go_wp2_with fail
          go_roundw
          case rel => exact ⟨k + 1, by omega, by go_num, by trivial, HK2⟩
          case measure => simp [intOf]; omega
        · have hd6 : decide ((60 : Int) < (x.text.size : Int)) = true := by simp; omega
          rw [decide_eq_false h60, Bool.false_and] at hK
          have HK2 := Lib.hid hK
          clear hK h60
          go_wp2_with fail
          go_ret
          rw [HK2.out]
          exact ⟨rfl, rfl⟩
      · obtain rfl : k = ops.length := by omega
        have hK := HK.out
        rw [List.drop_length] at hK
        have HK2 := Lib.hid hK
        clear hK
        go_wp2_with fail
        go_ret
        rw [HK2.out]
        exact ⟨rfl, rfl⟩
  · have hd : decide ((m : Int) < (ops.length : Int)) = true := by simp; omega
    have HL : Hid (fewB ops m = false) := Lib.hid (by unfold fewB; simp [hl])
    have hdn : m < ops.length := by omega
    clear hl
    go_enter Try.func21, Try.ntmps21
    go_wp2_with fail
    go_ret
    rw [HL.out]
    exact ⟨rfl, rfl⟩
end Go.Proofs.Ytaacafdlklnegaa
