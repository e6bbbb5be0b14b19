/-
  HistoryNew: the card.
-/
import Derived.Test.YtiecgbmeobpomaaDoorPHistoryNewo
import Derived.Test.YtiecgbmeobpomaaDoorCards
import Derived.Test.YtiecgbmeobpomaaDoorTie
namespace Go.Proofs.YtiecgbmeobpomaaDoor
open Go.RowKit Go.ChangeShapes Go.WideShapes Go.ChangeAt
open Go.ChangeMaps (open_string shut_string)
set_option linter.unusedVariables false
set_option linter.unusedSimpArgs false

set_option maxRecDepth 100000 in
theorem historyNew_laid (os : Os) : laidMetH Tryd.prog Rows.historyNewRow.laid ((World.laidAll Tryd.prog os Rows.historyNewRow.laid).forCall (fun _ _ => 0) ⟨#[], #[.slice none 0 0, .string ByteArray.empty, .bool false], []⟩).memory := by
  rw [MakeChecks.laidMetH_plain _ _ _ (by kernel_rfl)]
  exact laidMet_laidAll _ (by kernel_rfl) (by kernel_rfl)
set_option maxRecDepth 100000 in
theorem historyNew_lifted (os : Os) (started : os.Started) (H : Type) (enc : TypeId × Value → H) (F : Stop.Interp) :
    ReturnsInHanded {} Tryd.checked os 6 .any ((OpenSpec.ofChange Rows.historyNewSpec).preRow enc Tryd.prog Tryd.f6 [] false Rows.historyNewRow.laid) (((OpenSpec.ofChange Rows.historyNewSpec).at F).post enc Tryd.prog Tryd.f6 false true false false) := by
  obtain ⟨places, hx⟩ : ∃ places, DataW.whole enc Tryd.prog ((World.laidAll Tryd.prog os Rows.historyNewRow.laid).forCall (fun _ _ => 0) ⟨#[], #[.slice none 0 0, .string ByteArray.empty, .bool false], []⟩).memory Tryd.f6.params.toList [] false (#[.slice none 0 0, .string ByteArray.empty, .bool false] : Array Value).toList 8 = some ([.nil, .lit (.string []), .lit (.bool false)], [], places) := ⟨[], by kernel_rfl⟩
  refine law_liftD (C := Tryd.checked) (s := Rows.historyNewSpec) (tb := 4) started Tryd.own Tryd.laidOut (by kernel_rfl) Tryd.func6 (by kernel_rfl) rfl Tryd.underlying4 rfl ?_
    (witness_row_at (enc := enc) (C := Tryd.checked) false (World.laidAll Tryd.prog os Rows.historyNewRow.laid) #[.slice none 0 0, .string ByteArray.empty, .bool false] (World.laidAll_os _ _ _) (by kernel_rfl) (by kernel_rfl) (by kernel_rfl)
      (OpenSpec.preRow_of_cond 8 hx (by kernel_rfl) (fun k hk => by cases hk) (by kernel_rfl) (historyNew_laid os))) ?_
  · intro ds h
    match ds, h with
    | [_, _, _], _ => rfl
  · intro W base vs ds ps hval hA hsz hL
    have hp : Tryd.f6.params.toList = [22, 9, 4] := by rw [Tryd.params6]
    rw [hp] at hval hA hsz
    obtain ⟨v0, vs0, d0, ds0, p0, q0, rfl, rfl, rfl, h0, r0⟩ := trodAll_cons hA
    obtain ⟨v1, vs1, d1, ds1, p1, q1, rfl, rfl, rfl, h1, r1⟩ := trodAll_cons r0
    obtain ⟨v2, vs2, d2, ds2, p2, q2, rfl, rfl, rfl, h2, r2⟩ := trodAll_cons r1
    obtain ⟨rfl, rfl, rfl⟩ := trodAll_nil r2
    obtain ⟨a0, rfl, w0⟩ := open_opsS (hval 0 22 v0 rfl rfl) h0 (fun n hn => by have := List.all_eq_true.1 hsz n (DataW.weights_mem_each (j := 0) (t := 22) rfl rfl n hn); simpa using this)
    obtain ⟨a1, rfl, rfl, rfl, w1⟩ := open_string Tryd.underlying9 (hval 1 9 v1 rfl rfl) h1
    have l1 : a1.size ≤ 140737488351232 := by have := sized_string hsz (j := 1) (t := 9) rfl rfl; simpa [reachBytes] using this
    obtain ⟨a2, rfl, rfl, rfl⟩ := open_bool Tryd.underlying4 (hval 2 4 v2 rfl rfl) h2
    exact historyNew_walk W a0.1 a0.2 a1 a2 w0.1 w0.2.1 w0.2.2 (utf8_of_laid48 hL)

theorem historyNew_said : Rows.HistoryNewSaid :=
  OpenClaim.holds_of_cond 6 Tryd.f6 rfl rfl rfl rfl rfl rfl rfl ⟨rfl, rfl, rfl, rfl, rfl⟩ rfl rfl rfl rfl rfl (by kernel_rfl) Tryd.func6 (by kernel_rfl)
    (of_decide_eq_true (by kernel_rfl)) (by unfold Func.isWrapper; first | (rw [if_pos (by decide +kernel)]; kernel_rfl) | (rw [if_neg (by decide +kernel)]; exact ⟨rfl, rfl⟩))
    (fun os started H enc _ F => by rw [OpenClaim.pre_eq_preRow]; exact historyNew_lifted os started H enc F)
theorem historyNew_plain (f : FuncId) (fn : Func) (hf : Tryd.pinned.checked.prog.funcNamed "knapsack/knapsacklaw48.HistoryNew" = some f) (hfn : Tryd.pinned.checked.prog.funcs[f]? = some fn) :
    false = Tryd.pinned.checked.prog.looks [] ∧ ∀ (j : Nat) t, fn.params[j]? = some t → Tryd.pinned.checked.prog.wantsStandIn t = false := by
  obtain rfl : f = 6 := Option.some.inj ((show Tryd.prog.funcNamed "knapsack/knapsacklaw48.HistoryNew" = some 6 by kernel_rfl).symm.trans hf) |>.symm
  obtain rfl : fn = Tryd.f6 := (Option.some.inj (Tryd.func6.symm.trans hfn)).symm
  refine ⟨by kernel_rfl, fun j t ht => ?_⟩
  rw [Tryd.params6] at ht
  have hm : t ∈ [22, 9, 4] := by simpa using Array.mem_of_getElem? ht
  have hall : ([22, 9, 4].all fun u => !Tryd.prog.wantsStandIn u) = true := by kernel_rfl
  exact (show Tryd.prog.wantsStandIn t = false by simpa using List.all_eq_true.1 hall t hm)
/-- The tied card. -/
theorem historyNew_holds : Rows.HistoryNewCardSaid :=
  Claim7.holds_tied_plain_at .later [] _ _ _ _ historyNew_said (fun _ h => by cases h) (by kernel_rfl) (fun _ h => by cases h) historyNew_row_tie rfl ⟨rfl, rfl⟩ (by kernel_rfl) rfl historyNew_plain (by kernel_rfl)
#print axioms historyNew_holds
end Go.Proofs.YtiecgbmeobpomaaDoor
