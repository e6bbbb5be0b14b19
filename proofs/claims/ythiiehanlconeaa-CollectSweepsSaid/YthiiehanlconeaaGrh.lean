/-
  The law's graph, what its walk needs: the objects as they are made.
-/
import Derived.Test.YthiiehanlconeaaJrr
import Derived.Test.YthiiehanlconeaaMkg
import Derived.Test.YthiiehanlconeaaMake
import Derived.Test.YthiiehanlconeaaOpenc
namespace Go.Proofs.Ythiiehanlconeaa
open Go.RowKit
set_option linter.unusedVariables false
set_option linter.unusedSimpArgs false

theorem argRows_at {w : World} {v : Value} {n : Nat} {xs : List (List Value)} (h : ArgRows w v n xs) {i : Nat} (hi : i < xs.length) : ∃ g off cap, v = .slice (some ⟨g, off, none⟩) xs.length cap ∧ ∀ (j : Nat) (u : Value), xs[i][j]? = some u → w.cell? ⟨g, off + i * n + j, none⟩ = some u := by
  obtain ⟨a, cap, rfl, -, -, h3⟩ := h
  obtain ⟨g, off, rfl, hc⟩ := h3 (by intro e; subst e; simp at hi)
  exact ⟨g, off, cap, rfl, fun j u hu => hc i j _ u (List.getElem?_eq_getElem hi) hu⟩
/-! ### make of structs -/
theorem madeMany (z : Array Value) (hz : 0 < z.size) : ∀ n : Nat, (madeCells z (n * z.size)).toList = (List.replicate n z.toList).flatten
  | 0 => by simp [madeCells]
  | n + 1 => by
    have ih := madeMany z hz n
    have hl : ∀ N, (madeCells z N).toList = (List.range N).map fun i => z[i % z.size]! := fun N => by simp [madeCells]
    rw [hl] at ih ⊢
    rw [Nat.add_mul, Nat.one_mul, List.range_add, List.map_append, ih, List.replicate_succ', List.flatten_append, List.map_map]
    congr 1
    refine List.ext_getElem (by simp) fun i h1 h2 => ?_
    have hi : i < z.size := by simpa using h1
    rw [List.getElem_map, List.getElem_range]
    simp [Nat.mul_add_mod_self_right, Nat.mod_eq_of_lt hi, hi]
def roZ : List Value := [.bool false, .slice none 0 0, .slice none 0 0, .slice none 0 0]
theorem info_ro : (Try.prog.info? 81).map (fun i => (i.zero.map (·.cells), i.size, i.bytes)) = some (some roZ.toArray, 4, 80) := by kernel_rfl
theorem run_makeX (n : Nat) (hn : n ≤ 1000) (W : World) : (Instr.makeSlice 31 (.int .i64 (n : Int)) (.int .i64 (n : Int))).run Try.prog W = .ok (.slice (some ⟨W.heap.size, 0, none⟩) n n) (W.alloc (.cells (List.replicate n roZ).flatten.toArray 81)) := by
  have hE := info_ro
  match hm : Try.prog.info? 81, hE with
  | some i, hE =>
    simp only [Option.map_some, Option.some.injEq, Prod.mk.injEq] at hE
    obtain ⟨e1, e2, e3⟩ := hE
    obtain ⟨z, hz, hc⟩ := Option.map_eq_some_iff.1 e1
    have := run_make (P := Try.prog) W 31 81 i z Try.underlying31 hm hz .i64 .i64 (n : Int) (n : Int) (by omega) (Int.le_refl _) (by rw [e3]; omega) (by omega)
    rw [this, e2, hc, Int.toNat_natCast]
    have h := madeMany roZ.toArray (by show 0 < 4; omega) n
    rw [show (roZ.toArray).size = 4 from rfl, show roZ.toArray.toList = roZ from rfl] at h
    rw [← h, Array.toArray_toList]
theorem roNil_own (w : World) : robjR.own w roZ noR [] := ⟨_, _, _, [], [], [], rfl, ⟨_, [], [], rfl, RowAt.nil _ _ _, .nil, rfl⟩, ⟨_, [], [], rfl, RowAt.nil _ _ _, .nil, rfl⟩, ⟨_, [], [], rfl, RowAt.nil _ _ _, .nil, rfl⟩, rfl⟩
theorem each_same {α : Type} {A : Rep α} {w : World} {x : List Value} {a : α} (h : A.own w x a []) : ∀ n, Each A w (List.replicate n x) (List.replicate n a) (List.replicate n [])
  | 0 => .nil
  | n + 1 => .cons h (each_same h n)
theorem madeX (W : World) (n : Nat) (hn : n ≤ 1000) : Row robjR 81 (W.alloc (.cells (List.replicate n roZ).flatten.toArray 81)) (.slice (some ⟨W.heap.size, 0, none⟩) n n) (List.replicate n noR) [W.heap.size] := by
  have hl : (List.replicate n roZ).flatten.length = n * 4 := by simp [roZ]
  have hr : RowAt (W.alloc (.cells (List.replicate n roZ).flatten.toArray 81)) 81 4 (.slice (some ⟨W.heap.size, 0, none⟩) n n) n (List.replicate n roZ).flatten := RowAt.lit _ hl (by unfold maxLen; omega)
  refine ⟨⟨_, List.replicate n roZ, List.replicate n [], rfl, ?_, each_same (roNil_own _) n, ?_⟩, by simp⟩
  · rw [List.length_replicate]; exact hr
  · rw [ownL_some]; simp

/-! ### The objects as they are made -/
def kdOf (j : Nat) : Int := if j % 4 = 3 then 5 else 1
def sltI (j : Nat) : Slt := ⟨true, newObj (kdOf j) 0⟩
def hpI (b s : Int) (i : Nat) : Hp := { newM b s with slots := (newM b s).slots ++ (List.range i).map sltI, live := ((12 + i : Nat) : Int) }
def xoI (i j : Nat) : RObj := ⟨decide (j < i ∧ j % 4 = 3), [], [], []⟩
def xsI (n i : Nat) : List RObj := (List.range n).map (xoI i)
theorem newM_len (b s : Int) : (newM b s).slots.length = 12 := rfl
theorem hpI_len (b s : Int) (i : Nat) : (hpI b s i).slots.length = 12 + i := by
  show ((newM b s).slots ++ (List.range i).map sltI).length = _
  rw [List.length_append, newM_len]; simp
theorem hpI_zero (b s : Int) : hpI b s 0 = newM b s := by unfold hpI; simp [newM]
theorem hpI_succ (b s : Int) (i : Nat) (p : Int) : putO (addedM (hpI b s i) ⟨true, newObj (kdOf i) p⟩) (12 + i) (newObj (kdOf i) 0) = hpI b s (i + 1) := by
  have hl := hpI_len b s i
  have e1 : ((hpI b s i).slots ++ [(⟨true, newObj (kdOf i) p⟩ : Slt)]).getD (12 + i) noSlt = ⟨true, newObj (kdOf i) p⟩ := by
    rw [List.getD_eq_getElem?_getD, List.getElem?_append_right (by omega), hl, Nat.sub_self]; rfl
  have e2 : ((hpI b s i).slots ++ [(⟨true, newObj (kdOf i) p⟩ : Slt)]).set (12 + i) (sltI i) = (hpI b s i).slots ++ [sltI i] := by
    rw [List.set_append_right _ _ (by omega), hl, Nat.sub_self]; rfl
  have e3 : (hpI b s (i + 1)).slots = (hpI b s i).slots ++ [sltI i] := by
    show (newM b s).slots ++ (List.range (i + 1)).map sltI = ((newM b s).slots ++ (List.range i).map sltI) ++ [sltI i]
    rw [List.range_succ, List.map_append, List.append_assoc]; rfl
  unfold putO addedM
  simp only [e1]
  rw [show ({ (⟨true, newObj (kdOf i) p⟩ : Slt) with obj := newObj (kdOf i) 0 } : Slt) = sltI i from rfl, e2, ← e3]
  unfold hpI
  simp only [Hp.mk.injEq, true_and, and_true]
  omega
theorem xsI_len (n i : Nat) : (xsI n i).length = n := by simp [xsI]
theorem xsI_zero (n : Nat) : List.replicate n noR = xsI n 0 := by
  refine List.ext_getElem (by simp [xsI]) fun j h1 h2 => ?_
  simp [xsI, xoI, noR]
theorem xsI_set {n i : Nat} (hi : i < n) (h3 : i % 4 = 3) (h : i < (xsI n i).length) : (xsI n i).set i { (xsI n i)[i] with weak := true } = xsI n (i + 1) := by
  refine List.ext_getElem (by simp [xsI]) fun j h1 h2 => ?_
  rw [List.getElem_set]
  by_cases e : i = j
  · subst e; simp [xsI, xoI, h3]
  · rw [if_neg e]
    have : j < i ↔ j < i + 1 := by omega
    simp [xsI, xoI, this]
theorem xsI_skip {n i : Nat} (h3 : ¬ i % 4 = 3) : xsI n i = xsI n (i + 1) := by
  refine List.ext_getElem (by simp [xsI]) fun j h1 h2 => ?_
  have : (j < i ∧ j % 4 = 3) ↔ (j < i + 1 ∧ j % 4 = 3) := ⟨fun ⟨a, b⟩ => ⟨by omega, b⟩, fun ⟨a, b⟩ => ⟨by rcases Nat.lt_or_eq_of_le (Nat.le_of_lt_succ a) with x | x; exact x; subst x; exact absurd b h3, b⟩⟩
  simp [xsI, xoI, this]
def hsI (b s : Int) (i : Nat) : List Int := (List.range i).map (hOf b s)
theorem hsI_len (b s : Int) (i : Nat) : (hsI b s i).length = i := by simp [hsI]
theorem hsI_succ (b s : Int) (i : Nat) : hsI b s (i + 1) = hsI b s i ++ [hOf b s i] := by unfold hsI; rw [List.range_succ, List.map_append]; rfl
theorem gi_init (b s : Int) {n : Nat} (h0 : 0 < n) (hn : n ≤ 1000) : GI n b s (hsI b s n) (hpI b s n) (xsI n n) 0 0 := by
  have hl := hpI_len b s n
  refine ⟨⟨h0, hn, rfl, xsI_len n n, hl, fun i hi => ?_⟩, rfl, rfl, fun j hj => ?_, fun i hi => ?_, ⟨rfl, rfl, rfl, rfl, rfl⟩⟩
  · have : ∀ x ∈ (newM b s).slots ++ (List.range n).map sltI, x.used = true := fun x hx => by
      rcases List.mem_append.1 hx with h | h
      · obtain ⟨k, q, e, -⟩ := (newM_fresh b s x h).ex
        rw [e]
      · obtain ⟨j, -, rfl⟩ := List.mem_map.1 h
        rfl
    exact this _ (List.getElem_mem hi)
  · have e1 : (hpI b s n).slots.getD (12 + j) noSlt = sltI j := by
      show ((newM b s).slots ++ (List.range n).map sltI).getD (12 + j) noSlt = _
      rw [List.getD_eq_getElem?_getD, List.getElem?_append_right (by rw [newM_len]; omega), newM_len, show 12 + j - 12 = j from by omega, List.getElem?_map, List.getElem?_range hj]; rfl
    have e2 : (xsI n n).getD j noR = xoI n j := getD_map_range _ _ hj
    rw [e1, e2]
    by_cases h3 : j % 4 = 3
    · have e : xoI n j = ⟨decide ((((5 : Nat) : Int)) = 5), [], [], []⟩ := by simp [xoI, h3, hj]
      rw [e, show (sltI j).obj = newObj ((5 : Nat) : Int) 0 from by simp [sltI, kdOf, h3]]
      exact JO.init
    · have e : xoI n j = ⟨decide ((((1 : Nat) : Int)) = 5), [], [], []⟩ := by simp [xoI, h3]
      rw [e, show (sltI j).obj = newObj ((1 : Nat) : Int) 0 from by simp [sltI, kdOf, h3]]
      exact JO.init
  · show ((newM b s).slots ++ (List.range n).map sltI).getD i noSlt = _
    rw [List.getD_eq_getElem?_getD, List.getElem?_append_left (by rw [newM_len]; omega), List.getD_eq_getElem?_getD]

/-! ### Both graphs beside other blocks -/
section
variable {w0 W W' : World} {bh : Nat} {hp hp' : Hp} {vx : Value} {xs : List RObj} {Fh Fx B B' : List Nat} {S : Nat → Prop}
theorem gs_init {n : Nat} (hn : n ≤ 1000) (ho : Own hpR w0 W bh 0 hp Fh) :
    GS w0 (W.alloc (.cells (List.replicate n roZ).flatten.toArray 81)) bh hp (.slice (some ⟨W.heap.size, 0, none⟩) n n) (xsI n 0) Fh [W.heap.size] [] := by
  have hr := madeX W n hn
  rw [xsI_zero] at hr
  refine ⟨ho.still (Chg.alloc _ _ _), hr, fun k hk => ?_, fun h => ?_, fun k hk h => ?_, fun k hk => by cases hk⟩
  · rw [List.mem_singleton.1 hk]; exact ho.chg.size
  · have := ho.here.lt.1; have e := List.mem_singleton.1 h; omega
  · have := ho.here.lt.2 _ h; have e := List.mem_singleton.1 hk; omega
/-- What changes lies apart from both graphs. -/
theorem GS.apart (h : GS w0 W bh hp vx xs Fh Fx B) (hc : Chg S W W') (h0 : ∀ k, S k → k ∈ B) (hB : ∀ k ∈ B', k ∈ B ∨ (W.heap.size ≤ k ∧ k < W'.heap.size)) (hlo : ∀ k, S k → w0.heap.size ≤ k) : GS w0 W' bh hp vx xs Fh Fx B' := by
  have hb : ¬ S bh := fun x => (h.bs _ (h0 _ x)).1 rfl
  have hF : ∀ k ∈ Fh, ¬ S k := fun k hk x => (h.bs _ (h0 _ x)).2.1 hk
  have hX : ∀ k ∈ Fx, ¬ S k := fun k hk x => (h.bs _ (h0 _ x)).2.2.1 hk
  refine ⟨⟨h.heap.here.chg hc hb hF, h.heap.chg.trans hc (fun _ _ x => x) (fun i hi x => by have := hlo i x; omega), h.heap.lo, h.heap.los⟩, h.x.chg hc hX, h.xlo, h.bx, h.dis, fun k hk => ?_⟩
  rcases hB k hk with q | ⟨q1, q2⟩
  · obtain ⟨a, b, c, d⟩ := h.bs k q
    exact ⟨a, b, c, Nat.lt_of_lt_of_le d hc.size⟩
  · exact ⟨fun e => by have := h.heap.here.lt.1; omega, fun x => by have := h.heap.here.lt.2 _ x; omega, fun x => by have := h.x.lt _ x; omega, q2⟩
/-- A list that lies beside both graphs. -/
theorem OutI.kept {v : Value} {l : List Int} (h : OutI w0 W v l) (hk : KeepB (ownL v) W W') (hc : Chg (fun _ => False) w0 W') : OutI w0 W' v l :=
  ⟨h.row.keep fun k o hv ho => hk k (mem_ownL.2 hv) o ho, h.lo, hc⟩
end
end Go.Proofs.Ythiiehanlconeaa
