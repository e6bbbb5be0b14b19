/-
  collect.Live, what its walk needs: its state, the blocks of the rounds' deferred calls, the model.
-/
import Derived.Test.YthiiehanlconeaaDoorMku
namespace Go.Proofs.YthiiehanlconeaaDoor
open Go.RowKit
set_option linter.unusedVariables false
set_option linter.unusedSimpArgs false

def addsK (hp : Hp) (K : List Nat) (hs : List Int) : List Nat := hs.foldl (addK hp) K
def procK (hp : Hp) (em : Int → List Int) (K : List Nat) (s : Nat) : List Nat := addsK hp (addsK hp K (refsM (hp.slots.getD s noSlt).obj)) (em (handleM hp.base hp.stride (s : Nat)))
def drainM (hp : Hp) (em : Int → List Int) : Nat → List Nat → Nat → List Nat
  | 0, K, _ => K
  | f + 1, K, p => match K[p]? with
    | some s => drainM hp em f (procK hp em K s) (p + 1)
    | none => K
def liveM (hp : Hp) (em : Int → List Int) (N : Nat) : Nat → List Nat → Nat → List Nat
  | 0, K, _ => K
  | f + 1, K, p => if p < K.length then liveM hp em N f (weakM hp (drainM hp em N K p)) (drainM hp em N K p).length else K
section
variable {hp : Hp} {K : List Nat} {em : Int → List Int}
theorem addK_len (hp : Hp) (K : List Nat) (h : Int) : K.length ≤ (addK hp K h).length := by
  unfold addK
  split
  · exact addN_len _ _
  · exact Nat.le_refl _
theorem addsK_len (hp : Hp) : ∀ (hs : List Int) (K : List Nat), K.length ≤ (addsK hp K hs).length
  | [], K => Nat.le_refl _
  | h :: hs, K => Nat.le_trans (addK_len hp K h) (addsK_len hp hs _)
theorem addsK_snoc (hp : Hp) (K : List Nat) (hs : List Int) (h : Int) : addsK hp K (hs ++ [h]) = addK hp (addsK hp K hs) h := by unfold addsK; rw [List.foldl_append]; rfl
theorem addK_prefix (hp : Hp) (K : List Nat) (h : Int) : K <+: addK hp K h := by
  unfold addK
  split
  · exact addN_prefix _ _
  · exact List.prefix_refl _
theorem addsK_prefix (hp : Hp) : ∀ (hs : List Int) (K : List Nat), K <+: addsK hp K hs
  | [], K => List.prefix_refl _
  | h :: hs, K => (addK_prefix hp K h).trans (addsK_prefix hp hs _)
theorem prefix_get {K K' : List Nat} (h : K <+: K') {p s : Nat} (hs : K[p]? = some s) : ∃ hp : p < K'.length, K'[p] = s := by
  obtain ⟨t, rfl⟩ := h
  obtain ⟨h1, h2⟩ := List.getElem?_eq_some_iff.1 hs
  refine ⟨by rw [List.length_append]; omega, ?_⟩
  rw [List.getElem_append_left h1]; exact h2
theorem procK_len (s : Nat) : K.length ≤ (procK hp em K s).length := Nat.le_trans (addsK_len _ _ _) (addsK_len _ _ _)
theorem drainM_none {f p : Nat} (h : K.length ≤ p) : drainM hp em f K p = K := by
  cases f with
  | zero => rfl
  | succ f => simp only [drainM, List.getElem?_eq_none h]
theorem drainM_some {f p : Nat} (h : p < K.length) : drainM hp em (f + 1) K p = drainM hp em f (procK hp em K K[p]) (p + 1) := by simp only [drainM, List.getElem?_eq_getElem h]
theorem drainM_len : ∀ (f : Nat) (K : List Nat) (p : Nat), K.length ≤ (drainM hp em f K p).length
  | 0, K, p => Nat.le_refl _
  | f + 1, K, p => by
    by_cases h : p < K.length
    · rw [drainM_some h]; exact Nat.le_trans (procK_len _) (drainM_len f _ _)
    · rw [drainM_none (by omega)]; exact Nat.le_refl _
theorem liveM_done {N f p : Nat} (h : K.length ≤ p) : liveM hp em N f K p = K := by
  cases f with
  | zero => rfl
  | succ f => simp only [liveM, if_neg (Nat.not_lt.2 h)]
theorem liveM_step {N f p : Nat} (h : p < K.length) : liveM hp em N (f + 1) K p = liveM hp em N f (weakM hp (drainM hp em N K p)) (drainM hp em N K p).length := by simp only [liveM, if_pos h]
theorem wkV_len (hp : Hp) (K : List Nat) (p : Val × Val) : K.length ≤ (wkV hp K p).length := by
  unfold wkV
  split
  · exact addK_len _ _ _
  · exact Nat.le_refl _
theorem wkVs_len (hp : Hp) : ∀ (l : List (Val × Val)) (K : List Nat), K.length ≤ (l.foldl (wkV hp) K).length
  | [], K => Nat.le_refl _
  | a :: l, K => Nat.le_trans (wkV_len hp K a) (wkVs_len hp l _)
theorem weakS_len (hp : Hp) (K : List Nat) (s : Nat) : K.length ≤ (weakS hp K s).length := by
  unfold weakS weakObj
  split
  · exact wkVs_len _ _ _
  · exact Nat.le_refl _
theorem weakM_len (hp : Hp) (K : List Nat) : K.length ≤ (weakM hp K).length := by
  unfold weakM
  have : ∀ (l K0 : List Nat), K0.length ≤ (l.foldl (weakS hp) K0).length := by
    intro l
    induction l with
    | nil => intro K0; exact Nat.le_refl _
    | cons a l ih => intro K0; exact Nat.le_trans (weakS_len hp K0 a) (ih _)
  exact this K K
end

theorem eqD_nil (d : Nat) (W : World) : (Op.equalIn (d + 1) 68 .nilFunc .nilFunc).run Tryd.prog W = .ok true W := by
  rw [Op.equalIn]
  simp [run_underlying Tryd.underlying68]
theorem eqD_fn (d : Nat) (W : World) (f : Fn) (a b : Array Value) : (Op.equalIn (d + 1) 68 (.func f a b) .nilFunc).run Tryd.prog W = .ok false W := by
  rw [Op.equalIn]
  simp [run_underlying Tryd.underlying68]
theorem eqFn_nil (W : World) : (binOp .eql 68 .nilFunc .nilFunc).run Tryd.prog W = .ok (.bool true) W := by
  have h : (Op.equal 68 .nilFunc .nilFunc).run Tryd.prog W = .ok true W := by
    exact eqD_nil 9999 W
  simp [binOp, go_sem, h]
theorem eqFn_fn (W : World) (f : Fn) (a b : Array Value) : (binOp .eql 68 (.func f a b) .nilFunc).run Tryd.prog W = .ok (.bool false) W := by
  have h : (Op.equal 68 (.func f a b) .nilFunc).run Tryd.prog W = .ok false W := by
    exact eqD_fn 9999 W f a b
  simp [binOp, go_sem, h]
/-- The blocks of the rounds' deferred calls, all of them empty. -/
def markD (D : Nat) : Deferred := { target := .collected D, args := #[] }
structure DefsOk (w0 W : World) (ds : List Deferred) : Prop where
  ex : ∃ Ds : List Nat, ds = Ds.map markD ∧ Ds.Nodup ∧ ∀ D ∈ Ds, w0.heap.size ≤ D ∧ W.heap[D]? = some (.deferred (some []))
theorem DefsOk.nil (w0 W : World) : DefsOk w0 W [] := ⟨[], rfl, List.nodup_nil, fun _ h => by cases h⟩
theorem DefsOk.keep {w0 W W' : World} {ds : List Deferred} (h : DefsOk w0 W ds) (hk : ∀ D : Nat, W.heap[D]? = some (.deferred (some [])) → W'.heap[D]? = some (.deferred (some []))) : DefsOk w0 W' ds := by
  obtain ⟨Ds, e, hn, hd⟩ := h.ex
  exact ⟨Ds, e, hn, fun D hD => ⟨(hd D hD).1, hk D (hd D hD).2⟩⟩
theorem DefsOk.push {w0 W : World} {ds : List Deferred} {D : Nat} (h : DefsOk w0 W ds) (hD : w0.heap.size ≤ D) (hk : W.heap[D]? = some (.deferred (some []))) (hn : ∀ d ∈ ds, d ≠ markD D) : DefsOk w0 W (markD D :: ds) := by
  obtain ⟨Ds, rfl, hnd, hd⟩ := h.ex
  refine ⟨D :: Ds, rfl, List.nodup_cons.2 ⟨fun hx => hn _ (List.mem_map_of_mem hx) rfl, hnd⟩, fun E hE => ?_⟩
  rcases List.mem_cons.1 hE with rfl | x
  · exact ⟨hD, hk⟩
  · exact hd E x
/-- All marks are below a bound. -/
theorem DefsOk.lt {w0 W : World} {ds : List Deferred} (h : DefsOk w0 W ds) {D : Nat} (hD : markD D ∈ ds) : D < W.heap.size := by
  obtain ⟨Ds, rfl, -, hd⟩ := h.ex
  obtain ⟨E, hE, e⟩ := List.mem_map.1 hD
  have : E = D := by unfold markD at e; simpa using e
  subst this
  exact lt_of_block (hd E hE).2
/-- A function leaves with such marks. -/
theorem leaves_marks {P : Program} {fn : Func} {tmps : Array Value} {R : Ending → World → Prop} {n : Nat} : ∀ (Ds : List Nat) (w0 W : World), Ds.Nodup → (∀ D ∈ Ds, w0.heap.size ≤ D ∧ W.heap[D]? = some (.deferred (some []))) →
    (∀ W', Chg (fun k => k ∈ Ds) W W' → LeavesIn Fence.wide n P fn tmps R [] .returning W') → LeavesInM Fence.wide n P fn tmps R (Ds.map markD) .returning W
  | [], w0, W, _, _, h => h W (.refl _ _)
  | D :: Ds, w0, W, hn, hd, h => by
    obtain ⟨hn1, hn2⟩ := List.nodup_cons.1 hn
    obtain ⟨k1, k2⟩ := hd D (by simp)
    refine ⟨by simp, .inl ⟨D, _, rfl, run_takeDeferred k2, ?_⟩⟩
    refine leaves_marks Ds w0 _ hn2 (fun E hE => ?_) (fun W' hc => h W' ?_)
    · obtain ⟨e1, e2⟩ := hd E (by simp [hE])
      refine ⟨e1, ?_⟩
      rw [World.putObj_heap_other (by rintro rfl; exact hn1 hE)]
      exact e2
    · refine ((Chg.refl (fun k => k ∈ D :: Ds) W).putObj D _ (fun _ => by simp)).trans hc (fun _ _ x => x) (fun i _ x => List.mem_cons_of_mem _ x)

theorem mkBlocks {w : World} {bm : Nat} {m : Mk} {F : List Nat} (H : Here mkR w bm 0 m F) : (∃ c T, w.heap[bm]? = some (.cells c T (0, 0))) ∧ ∀ k ∈ F, ∃ c T, w.heap[k]? = some (.cells c T (0, 0)) := by
  refine ⟨H.boxed, fun k hk => ?_⟩
  obtain ⟨cs, ⟨v1, v2, F1, F2, rfl, h1, h2, rfl⟩, hc⟩ := H.cell
  obtain ⟨x1, e1, r1, rfl⟩ := row_flat.1 h1
  obtain ⟨x2, e2, r2, rfl⟩ := row_flat.1 h2
  have key : ∀ {e size n : Nat} {v : Value} {xs : List Value}, RowAt w e size v n xs → k ∈ ownL v → ∃ c T, w.heap[k]? = some (.cells c T (0, 0)) := by
    intro e size n v xs hr hk
    rcases hr.2 with ⟨rfl, -⟩ | ⟨g, off, cap, cur, rfl, hg, -⟩
    · simp [ownL, Value.ownBlock] at hk
    · rw [ownL_some, List.mem_singleton] at hk
      subst hk
      exact ⟨_, _, hg⟩
  rcases List.mem_append.1 hk with x | x
  · exact key r1 x
  · exact key r2 x

/-- Live's state: the marks, the variable that holds them, the deferred blocks. -/
structure LS (w0 W : World) (bx bm bh : Nat) (hp : Hp) (K : List Nat) (F : List Nat) (ds : List Deferred) : Prop where
  own : Own mkR w0 W bm 0 (mkOf bh hp K) F
  ok : KOk hp K
  box : W.heap[bx]? = some (.cells #[.pointer (some ⟨bm, 0, none⟩)] 69 (0, 0))
  bxF : bx ∉ F
  lo : w0.heap.size ≤ bx
  defs : DefsOk w0 W ds
section
variable {w0 W W' : World} {bx bm bh : Nat} {hp : Hp} {K K' : List Nat} {F F' : List Nat} {ds : List Deferred}
theorem LS.ne (h : LS w0 W bx bm bh hp K F ds) : bx ≠ bm := by
  rintro rfl
  obtain ⟨c, T, h1, h2⟩ := h.own.here.box
  rw [h.box] at h1
  cases h1
  have := mkR.len h2
  simp at this
  change min 3 1 = 3 at this
  omega
theorem LS.still (h : LS w0 W bx bm bh hp K F ds) (hc : Chg (fun _ => False) W W') : LS w0 W' bx bm bh hp K F ds :=
  ⟨h.own.still hc, h.ok, hc.keep h.box (fun x => x), h.bxF, h.lo, h.defs.keep fun D hD => hc.keep hD (fun x => x)⟩
theorem LS.step (h : LS w0 W bx bm bh hp K F ds) (ho : Own mkR w0 W' bm 0 (mkOf bh hp K') F') (hk : KOk hp K') (hs : Step W W' bm 0 3 F F') : LS w0 W' bx bm bh hp K' F' ds := by
  obtain ⟨⟨c, T, hb⟩, hF⟩ := mkBlocks h.own.here
  refine ⟨ho, hk, hs.chg.keep h.box (fun x => x.elim h.ne h.bxF), fun hx => ?_, h.lo, h.defs.keep fun D hD => hs.chg.keep hD ?_⟩
  · rcases hs.new bx hx with x | x
    · exact h.bxF x
    · have := lt_of_block h.box; omega
  · rintro (rfl | x)
    · rw [hb] at hD; cases hD
    · obtain ⟨c2, T2, h2⟩ := hF D x
      rw [h2] at hD; cases hD
theorem LS.cell (h : LS w0 W bx bm bh hp K F ds) : W.cell? ⟨bx, 0, none⟩ = some (.pointer (some ⟨bm, 0, none⟩)) := cell_of_block h.box rfl
theorem LS.listCell (h : LS w0 W bx bm bh hp K F ds) : ∃ a cap, W.cell? ⟨bm, 2, none⟩ = some (.slice a K.length cap) ∧ ∀ p (hp' : p < K.length), ∃ g off, a = some ⟨g, off, none⟩ ∧ W.cell? ⟨g, off + p, none⟩ = some (.int .i64 (handleM hp.base hp.stride (K[p] : Nat))) := by
  obtain ⟨-, -, ⟨a, cap, m2⟩⟩ := mkCells h.own.here
  obtain ⟨p, c, hv, hsv⟩ := SnapV.start h.own.here m2
  have hll : (mkOf bh hp K).list.length = K.length := by show (K.map _).length = _; simp
  rw [hll] at m2
  refine ⟨a, cap, m2, fun q hq => ?_⟩
  cases hv
  rcases hsv with hx | ⟨g, off, h1, -, h3⟩
  · rw [hx] at hll
    simp at hll
    omega
  · refine ⟨g, off, h1, ?_⟩
    have := h3 q (by rw [hll]; exact hq)
    rw [this]
    show some (Value.int .i64 ((K.map fun i => handleM hp.base hp.stride (i : Nat))[q]'(by simpa using hq))) = _
    simp
end
/-- What is handed back, behind the turn of the deferred blocks. -/
theorem LS.out {w0 W W' : World} {bx bm bh : Nat} {hp : Hp} {K : List Nat} {F : List Nat} {ds : List Deferred} {Ds : List Nat} {v : Value} (h : LS w0 W bx bm bh hp K F ds) (hv : W.cell? ⟨bm, 2, none⟩ = some v)
    (hd : ∀ D ∈ Ds, w0.heap.size ≤ D ∧ W.heap[D]? = some (.deferred (some []))) (hc : Chg (fun k => k ∈ Ds) W W') : OutI w0 W' v (K.map fun i => handleM hp.base hp.stride (i : Nat)) := by
  obtain ⟨cs, ⟨v1, v2, F1, F2, rfl, h1, h2, hF⟩, hcell⟩ := h.own.here.cell
  obtain ⟨x2, e2, r2, hF2⟩ := row_flat.1 h2
  obtain rfl : v2 = x2 := by simpa using e2
  have c2 := hcell 2 _ rfl
  simp only [Nat.zero_add] at c2
  rw [hv] at c2
  cases c2
  have hvF : ∀ k, v.ownBlock = some k → k ∈ F := fun k hk => by rw [hF, hF2]; exact List.mem_append_right _ (mem_ownL.2 hk)
  have hvD : ∀ k, v.ownBlock = some k → ¬ k ∈ Ds := fun k hk hD => by
    obtain ⟨c, T, hb⟩ := (mkBlocks h.own.here).2 k (hvF k hk)
    rw [(hd k hD).2] at hb
    cases hb
  refine ⟨?_, fun k hk => h.own.los k (hvF k hk), h.own.chg.trans hc (fun _ _ x => x) (fun i hi x => by have := (hd i x).1; omega)⟩
  have hr := r2.chg hc hvD
  rw [flatMap_one] at hr
  exact hr
/-- A step of the rounds: where the marks may lie. -/
structure LI (w0 wS W : World) (bx bm bh : Nat) (hp : Hp) (K : List Nat) (ds : List Deferred) (B1 : Nat) : Prop where
  ex : ∃ F, LS w0 W bx bm bh hp K F ds ∧ (∀ k ∈ F, k < wS.heap.size ∨ B1 ≤ k)
  lo : bm < wS.heap.size ∧ bx < wS.heap.size
  sz : B1 ≤ W.heap.size
section
variable {w0 wS W W' : World} {bx bm bh : Nat} {hp : Hp} {K K' : List Nat} {ds : List Deferred} {B1 : Nat}
theorem LI.start {F : List Nat} (h : LS w0 wS bx bm bh hp K F ds) (hc : Chg (fun _ => False) wS W) : LI w0 wS W bx bm bh hp K ds W.heap.size :=
  ⟨⟨F, h.still hc, fun k hk => .inl (h.own.here.lt.2 k hk)⟩, ⟨h.own.here.lt.1, lt_of_block h.box⟩, Nat.le_refl _⟩
theorem LI.putObj (h : LI w0 wS W bx bm bh hp K ds B1) {l : Nat} {o o' : _root_.Go.Obj} (hl : wS.heap.size ≤ l) (ho : W.heap[l]? = some o) (hoc : o.isCells = false) (hd : ∀ d ∈ ds, d ≠ markD l) : LI w0 wS (W.putObj l o') bx bm bh hp K ds B1 := by
  obtain ⟨F, hs, hF⟩ := h.ex
  obtain ⟨⟨c, T, hb⟩, hFc⟩ := mkBlocks hs.own.here
  have hne : ∀ k c T, W.heap[k]? = some (.cells c T (0, 0)) → k ≠ l := by
    rintro k c T hk rfl
    rw [hk] at ho
    cases ho
    simp [_root_.Go.Obj.isCells] at hoc
  have hc : Chg (fun k => k = l) W (W.putObj l o') := (Chg.refl _ W).putObj l o' (fun _ => rfl)
  refine ⟨⟨F, ⟨⟨hs.own.here.chg hc (hne _ _ _ hb) (fun k hk => by obtain ⟨c2, T2, h2⟩ := hFc k hk; exact hne _ _ _ h2), hs.own.chg.trans hc (fun _ _ x => x) (fun i hi e => ?_), hs.own.lo, hs.own.los⟩, hs.ok, hc.keep hs.box (hne _ _ _ hs.box), hs.bxF, hs.lo, ?_⟩, hF⟩, h.lo, ?_⟩
  · have := h.lo.1
    have := hs.own.lo
    omega
  · obtain ⟨Ds, rfl, hnd, hdd⟩ := hs.defs.ex
    exact ⟨Ds, rfl, hnd, fun D hD => ⟨(hdd D hD).1, hc.keep (hdd D hD).2 (fun e => hd _ (List.mem_map_of_mem hD) (by rw [e]))⟩⟩
  · have := h.sz
    have := hc.size
    omega
theorem LI.step {F F' : List Nat} (hs : LS w0 W bx bm bh hp K F ds) (hF : ∀ k ∈ F, k < wS.heap.size ∨ B1 ≤ k) (hlo : bm < wS.heap.size ∧ bx < wS.heap.size) (hsz : B1 ≤ W.heap.size) (ho : Own mkR w0 W' bm 0 (mkOf bh hp K') F') (hk : KOk hp K') (hst : Step W W' bm 0 3 F F') :
    LI w0 wS W' bx bm bh hp K' ds B1 ∧ ∀ k o, wS.heap.size ≤ k → k < B1 → W.heap[k]? = some o → W'.heap[k]? = some o := by
  refine ⟨⟨⟨F', hs.step ho hk hst, fun k hk => ?_⟩, hlo, Nat.le_trans hsz hst.chg.size⟩, fun k o h1 h2 hko => hst.chg.keep hko ?_⟩
  · rcases hst.new k hk with x | x
    · exact hF k x
    · exact .inr (Nat.le_trans hsz x)
  · rintro (rfl | x)
    · omega
    · rcases hF k x with y | y <;> omega
end
end Go.Proofs.YthiiehanlconeaaDoor
