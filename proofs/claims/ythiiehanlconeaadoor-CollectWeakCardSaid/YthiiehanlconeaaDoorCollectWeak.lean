/-
  CollectWeak: the statement, its tied card. No conditions beyond the row's own.
-/
import Derived.Test.YthiiehanlconeaaDoorCwk
import Derived.Test.YthiiehanlconeaaDoorLawD
import Derived.Test.YthiiehanlconeaaDoorCards
import Derived.Test.YthiiehanlconeaaDoorTie
namespace Go.Proofs.YthiiehanlconeaaDoor
set_option linter.unusedVariables false
open Go.ChangeShapes Go.WideShapes Go.ChangeAt Go.RowKit
open Go.ChangeMaps (open_string shut_string)

theorem u8_nat {a : Int} (h : (Lit.int .u8 a).wf = true) : ∃ n : Nat, a = (n : Int) ∧ n < 256 := by
  have e1 : IntKind.u8.min = 0 := by decide
  have e2 : IntKind.u8.max = 255 := by decide
  have h := int_of_wf h
  rw [e1, e2] at h
  exact ⟨a.toNat, by omega, by omega⟩
section
variable {H : Type} {enc : TypeId × Value → H} {P : Program} {w : World} {base : Nat}
theorem open_u8Row {t e : TypeId} (ht : P.underlying t = some (.slice e)) (he : P.underlying e = some (.int .u8)) (hc : P.cellsOf e = 1) {v : Value} {d : DataW H} {ps : List MemPlace}
    (hv : Value.okWide P w .any base t v) (h : DataW.Trod enc P w 0 (fun _ => true) true t v d ps) : ∃ zs : List Nat, ArgRow w v (u8C zs) ∧ ∀ z ∈ zs, z < 256 := by
  obtain ⟨zs, h1, h2, -⟩ := open_intRow ht he hc hv h
  have e1 : IntKind.u8.min = 0 := by decide
  have e2 : IntKind.u8.max = 255 := by decide
  rw [e1, e2] at h2
  refine ⟨zs.map Int.toNat, ?_, fun z hz => ?_⟩
  · have : u8C (zs.map Int.toNat) = zs.map (Value.int .u8) := by
      unfold u8C
      rw [List.map_map]
      refine List.map_congr_left fun z hz => ?_
      have := h2 z hz
      show Value.int .u8 ((z.toNat : Nat) : Int) = _
      rw [show ((z.toNat : Nat) : Int) = z by omega]
    rw [this]; exact h1
  · obtain ⟨x, hx, rfl⟩ := List.mem_map.1 hz
    have := h2 x hx
    omega
end
theorem collectWeak_core (a : Int) (zs : List Nat) (v : Value) (w : World) (ha : (Lit.int .u8 a).wf = true) (hz : ArgRow w v (u8C zs) ∧ ∀ z ∈ zs, z < 256) :
    Calls Tryd.prog 3 #[.int .u8 a, v] w fun e w' => e = .returned (.bool true) ∧ Below w.heap.size w w' := by
  obtain ⟨n, rfl, hn⟩ := u8_nat ha
  refine collectWeak_walk n zs v w hn hz.2 ?_ hz.1
  obtain ⟨p, cap, e, h1, h2, h3⟩ := hz.1
  rw [u8C_len] at h1
  unfold maxLen at h2
  omega
set_option maxRecDepth 100000 in
theorem collectWeak_laid (os : Os) : laidMetH Tryd.prog Rows.collectWeakRow.laid ((World.laidAll Tryd.prog os Rows.collectWeakRow.laid).forCall (fun _ _ => 0) ⟨#[], #[.int .u8 0, .slice none 0 0], []⟩).memory := by
  rw [MakeChecks.laidMetH_plain _ _ _ (by kernel_rfl)]
  exact laidMet_laidAll _ (by kernel_rfl) (by kernel_rfl)
set_option maxRecDepth 100000 in
theorem collectWeak_lifted (os : Os) (started : os.Started) (H : Type) (enc : TypeId × Value → H) (F : Stop.Interp) :
    ReturnsInHanded {} Tryd.checked os 3 .any ((OpenSpec.ofChange Rows.collectWeakSpec).preRow enc Tryd.prog Tryd.f3 [] false Rows.collectWeakRow.laid) (((OpenSpec.ofChange Rows.collectWeakSpec).at F).post enc Tryd.prog Tryd.f3 false true false false) := by
  obtain ⟨places, hx⟩ : ∃ places, DataW.whole enc Tryd.prog ((World.laidAll Tryd.prog os Rows.collectWeakRow.laid).forCall (fun _ _ => 0) ⟨#[], #[.int .u8 0, .slice none 0 0], []⟩).memory Tryd.f3.params.toList [] false (#[.int .u8 0, .slice none 0 0] : Array Value).toList 8 = some ([.lit (.int .u8 0), .nil], [], places) := ⟨[], by kernel_rfl⟩
  refine law_liftD (C := Tryd.checked) (s := Rows.collectWeakSpec) (tb := 4) started Tryd.own Tryd.laidOut (by kernel_rfl) Tryd.func3 (by kernel_rfl) rfl Tryd.underlying4 rfl ?_
    (witness_row_at (enc := enc) (C := Tryd.checked) false (World.laidAll Tryd.prog os Rows.collectWeakRow.laid) #[.int .u8 0, .slice none 0 0] (World.laidAll_os _ _ _) (by kernel_rfl) (by kernel_rfl) (by kernel_rfl)
      (OpenSpec.preRow_of_cond 8 hx (by kernel_rfl) (fun k hk => by cases hk) (by kernel_rfl) (collectWeak_laid os))) ?_
  · intro ds h
    match ds, h with
    | [_, _], _ => rfl
  · intro W base vs ds ps hval hA hsz hL
    have hp : Tryd.f3.params.toList = [5, 22] := by rw [Tryd.params3]
    rw [hp] at hval hA hsz
    obtain ⟨v0, vs0, d0, ds0, p0, q0, rfl, rfl, rfl, h0, r0⟩ := trodAll_cons hA
    obtain ⟨v1, vs1, d1, ds1, p1, q1, rfl, rfl, rfl, h1, r1⟩ := trodAll_cons r0
    obtain ⟨rfl, rfl, rfl⟩ := trodAll_nil r1
    obtain ⟨a0, rfl, rfl, rfl, w0⟩ := open_int Tryd.underlying5 (hval 0 5 v0 rfl rfl) h0
    obtain ⟨a1, w1⟩ := open_u8Row Tryd.underlying22 Tryd.underlying5 (by kernel_rfl) (hval 1 22 v1 rfl rfl) h1
    exact collectWeak_core a0 a1 _ W w0 w1

theorem collectWeak_said : Rows.CollectWeakSaid :=
  OpenClaim.holds_of_cond 3 Tryd.f3 rfl rfl rfl rfl rfl rfl rfl ⟨rfl, rfl, rfl, rfl, rfl⟩ rfl rfl rfl rfl rfl (by kernel_rfl) Tryd.func3 (by kernel_rfl)
    (of_decide_eq_true (by kernel_rfl)) (by unfold Func.isWrapper; first | (rw [if_pos (by decide +kernel)]; kernel_rfl) | (rw [if_neg (by decide +kernel)]; exact ⟨rfl, rfl⟩))
    (fun os started H enc _ F => by rw [OpenClaim.pre_eq_preRow]; exact collectWeak_lifted os started H enc F)
theorem collectWeak_plain (f : FuncId) (fn : Func) (hf : Tryd.pinned.checked.prog.funcNamed "knapsack/knapsacklaw35.CollectWeak" = some f) (hfn : Tryd.pinned.checked.prog.funcs[f]? = some fn) :
    true = Tryd.pinned.checked.prog.looks [] ∧ ∀ (j : Nat) t, fn.params[j]? = some t → Tryd.pinned.checked.prog.wantsStandIn t = false := by
  obtain rfl : f = 3 := Option.some.inj ((show Tryd.prog.funcNamed "knapsack/knapsacklaw35.CollectWeak" = some 3 by kernel_rfl).symm.trans hf) |>.symm
  obtain rfl : fn = Tryd.f3 := (Option.some.inj (Tryd.func3.symm.trans hfn)).symm
  refine ⟨by kernel_rfl, fun j t ht => ?_⟩
  rw [Tryd.params3] at ht
  have hm : t ∈ [5, 22] := by simpa using Array.mem_of_getElem? ht
  have hall : ([5, 22].all fun u => !Tryd.prog.wantsStandIn u) = true := by kernel_rfl
  exact (show Tryd.prog.wantsStandIn t = false by simpa using List.all_eq_true.1 hall t hm)
/-- The tied card. -/
theorem collectWeak_holds : Rows.CollectWeakCardSaid :=
  Claim7.holds_tied_plain_at .later [] _ _ _ _ collectWeak_said (fun _ h => by cases h) (by kernel_rfl) (fun _ h => by cases h) collectWeak_row_tie rfl ⟨rfl, rfl⟩ (by kernel_rfl) rfl collectWeak_plain (by kernel_rfl)
#print axioms collectWeak_holds
end Go.Proofs.YthiiehanlconeaaDoor
