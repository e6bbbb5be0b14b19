/-
  CollectRoots, what its walk needs: heap, frames, jobs and a list side by side; the list of the roots, plainly.
-/
import Derived.Test.YthiiehanlconeaaRts
import Derived.Test.YthiiehanlconeaaAwk
namespace Go.Proofs.Ythiiehanlconeaa
open Go.RowKit
set_option linter.unusedVariables false
set_option linter.unusedSimpArgs false

theorem Own.aside {α : Type} {A : Rep α} {w W W' : World} {b o : Nat} {a : α} {F : List Nat} {S : Nat → Prop} (h : Own A w W b o a F) (hc : Chg S W W') (hd : ∀ k ∈ b :: F, ¬ S k) (hlo : ∀ k, S k → w.heap.size ≤ k) : Own A w W' b o a F :=
  ⟨h.here.chg hc (hd b (List.mem_cons_self ..)) (fun k hk => hd k (List.mem_cons_of_mem _ hk)), h.chg.trans hc (fun _ _ x => x) (fun i hi x => by have := hlo i x; omega), h.lo, h.los⟩
theorem dis_l {b N : Nat} {F F' X : List Nat} (h : ∀ k ∈ b :: F, k ∉ X) (hn : ∀ k ∈ F', k ∈ F ∨ N ≤ k) (hx : ∀ k ∈ X, k < N) : ∀ k ∈ b :: F', k ∉ X := fun k hk x => by
  rcases List.mem_cons.1 hk with rfl | hk
  · exact h _ (List.mem_cons_self ..) x
  · rcases hn k hk with y | y
    · exact h k (List.mem_cons_of_mem _ y) x
    · have := hx k x; omega
theorem dis_r {b N : Nat} {F F' X : List Nat} (h : ∀ k ∈ X, k ∉ b :: F) (hn : ∀ k ∈ F', k ∈ F ∨ N ≤ k) (hx : ∀ k ∈ X, k < N) : ∀ k ∈ X, k ∉ b :: F' := fun k hk x => by
  rcases List.mem_cons.1 x with rfl | x
  · exact h _ hk (List.mem_cons_self ..)
  · rcases hn k x with y | y
    · exact h k hk (List.mem_cons_of_mem _ y)
    · have := hx k hk; omega
structure RS (w W : World) (bh bs bj : Nat) (hp : Hp) (frames : List Frm) (jobs : List Job) (v : Value) (L : List Int) (Fh Fs Fj : List Nat) : Prop where
  heap : Own hpR w W bh 0 hp Fh
  fr : Own (frmR.row 101) w W bs 0 frames Fs
  jb : Own (jobR.row 69) w W bj 0 jobs Fj
  li : OutI w W v L
  d1 : ∀ k ∈ bh :: Fh, k ∉ bs :: Fs
  d2 : ∀ k ∈ bh :: Fh, k ∉ bj :: Fj
  d3 : ∀ k ∈ bh :: Fh, k ∉ ownL v
  d4 : ∀ k ∈ bs :: Fs, k ∉ bj :: Fj
  d5 : ∀ k ∈ bs :: Fs, k ∉ ownL v
  d6 : ∀ k ∈ bj :: Fj, k ∉ ownL v
theorem Own.ltc {α : Type} {A : Rep α} {w W : World} {b o : Nat} {a : α} {F : List Nat} (h : Own A w W b o a F) : ∀ k ∈ b :: F, k < W.heap.size := fun k hk => by
  rcases List.mem_cons.1 hk with rfl | hk
  · exact h.here.lt.1
  · exact h.here.lt.2 k hk
theorem Own.loc {α : Type} {A : Rep α} {w W : World} {b o : Nat} {a : α} {F : List Nat} (h : Own A w W b o a F) : ∀ k ∈ b :: F, w.heap.size ≤ k := fun k hk => by
  rcases List.mem_cons.1 hk with rfl | hk
  · exact h.lo
  · exact h.los k hk
section
variable {w W W' : World} {bh bs bj : Nat} {hp hp' : Hp} {frames frames' : List Frm} {jobs jobs' : List Job} {v v' : Value} {L L' : List Int} {Fh Fs Fj : List Nat}
theorem RS.still (h : RS w W bh bs bj hp frames jobs v L Fh Fs Fj) (hc : Chg (fun _ => False) W W') : RS w W' bh bs bj hp frames jobs v L Fh Fs Fj :=
  ⟨h.heap.still hc, h.fr.still hc, h.jb.still hc, h.li.still hc, h.d1, h.d2, h.d3, h.d4, h.d5, h.d6⟩
theorem RS.llt (h : RS w W bh bs bj hp frames jobs v L Fh Fs Fj) : ∀ k ∈ ownL v, k < W.heap.size := fun k hk => h.li.row.lt k (mem_ownL.1 hk)
theorem RS.heapS (h : RS w W bh bs bj hp frames jobs v L Fh Fs Fj) (hp1 : Post hpR W bh 0 hp' Fh W') : ∃ Fh', RS w W' bh bs bj hp' frames jobs v L Fh' Fs Fj := by
  obtain ⟨F', h1, h2⟩ := hp1
  have hS : ∀ k, (k = bh ∨ k ∈ Fh) → k ∈ bh :: Fh := fun k x => x.elim (fun e => e ▸ List.mem_cons_self ..) (List.mem_cons_of_mem _)
  have hlo : ∀ k, (k = bh ∨ k ∈ Fh) → w.heap.size ≤ k := fun k x => h.heap.loc k (hS k x)
  exact ⟨F', h.heap.step h1 h2, h.fr.aside h2.chg (fun k hk x => h.d1 k (hS k x) hk) hlo, h.jb.aside h2.chg (fun k hk x => h.d2 k (hS k x) hk) hlo,
    h.li.other h2.chg (fun k hk x => h.d3 k (hS k x) (mem_ownL.2 hk)) (fun k hk x => by have := hlo k x; omega),
    dis_l h.d1 h2.new h.fr.ltc, dis_l h.d2 h2.new h.jb.ltc, dis_l h.d3 h2.new h.llt, h.d4, h.d5, h.d6⟩
theorem RS.frS (h : RS w W bh bs bj hp frames jobs v L Fh Fs Fj) (hp1 : Post (frmR.row 101) W bs 0 frames' Fs W') : ∃ Fs', RS w W' bh bs bj hp frames' jobs v L Fh Fs' Fj := by
  obtain ⟨F', h1, h2⟩ := hp1
  have hS : ∀ k, (k = bs ∨ k ∈ Fs) → k ∈ bs :: Fs := fun k x => x.elim (fun e => e ▸ List.mem_cons_self ..) (List.mem_cons_of_mem _)
  have hlo : ∀ k, (k = bs ∨ k ∈ Fs) → w.heap.size ≤ k := fun k x => h.fr.loc k (hS k x)
  exact ⟨F', h.heap.aside h2.chg (fun k hk x => h.d1 k hk (hS k x)) hlo, h.fr.step h1 h2, h.jb.aside h2.chg (fun k hk x => h.d4 k (hS k x) hk) hlo,
    h.li.other h2.chg (fun k hk x => h.d5 k (hS k x) (mem_ownL.2 hk)) (fun k hk x => by have := hlo k x; omega),
    dis_r h.d1 h2.new h.heap.ltc, h.d2, h.d3, dis_l h.d4 h2.new h.jb.ltc, dis_l h.d5 h2.new h.llt, h.d6⟩
theorem RS.jbS (h : RS w W bh bs bj hp frames jobs v L Fh Fs Fj) (hp1 : Post (jobR.row 69) W bj 0 jobs' Fj W') : ∃ Fj', RS w W' bh bs bj hp frames jobs' v L Fh Fs Fj' := by
  obtain ⟨F', h1, h2⟩ := hp1
  have hS : ∀ k, (k = bj ∨ k ∈ Fj) → k ∈ bj :: Fj := fun k x => x.elim (fun e => e ▸ List.mem_cons_self ..) (List.mem_cons_of_mem _)
  have hlo : ∀ k, (k = bj ∨ k ∈ Fj) → w.heap.size ≤ k := fun k x => h.jb.loc k (hS k x)
  exact ⟨F', h.heap.aside h2.chg (fun k hk x => h.d2 k hk (hS k x)) hlo, h.fr.aside h2.chg (fun k hk x => h.d4 k hk (hS k x)) hlo, h.jb.step h1 h2,
    h.li.other h2.chg (fun k hk x => h.d6 k (hS k x) (mem_ownL.2 hk)) (fun k hk x => by have := hlo k x; omega),
    h.d1, dis_r h.d2 h2.new h.heap.ltc, h.d3, dis_r h.d4 h2.new h.fr.ltc, h.d5, dis_l h.d6 h2.new h.llt⟩
theorem RS.liS (h : RS w W bh bs bj hp frames jobs v L Fh Fs Fj) (hc : Chg (fun k => v.ownBlock = some k) W W') (ho : OutI w W' v' L') (hold : ∀ k, v'.ownBlock = some k → v.ownBlock = some k ∨ W.heap.size ≤ k) : RS w W' bh bs bj hp frames jobs v' L' Fh Fs Fj := by
  have hlo : ∀ k, v.ownBlock = some k → w.heap.size ≤ k := h.li.lo
  have hd : ∀ {X : List Nat}, (∀ k ∈ X, k ∉ ownL v) → (∀ k ∈ X, k < W.heap.size) → ∀ k ∈ X, k ∉ ownL v' := fun h1 h2 k hk x => by
    rcases hold k (mem_ownL.1 x) with y | y
    · exact h1 k hk (mem_ownL.2 y)
    · have := h2 k hk; omega
  exact ⟨h.heap.aside hc (fun k hk x => h.d3 k hk (mem_ownL.2 x)) hlo, h.fr.aside hc (fun k hk x => h.d5 k hk (mem_ownL.2 x)) hlo, h.jb.aside hc (fun k hk x => h.d6 k hk (mem_ownL.2 x)) hlo, ho,
    h.d1, h.d2, hd h.d3 h.heap.ltc, h.d4, hd h.d5 h.fr.ltc, hd h.d6 h.jb.ltc⟩
end

/-! ### What is made -/
def oR (q : Nat) : Int := 13 + (q : Int)
theorem hOf_one {q : Nat} (h : q ≤ 1000) : hOf 1 1 q = oR q := by
  unfold hOf handleM oR normB
  rw [if_neg (by omega), show min (max (1 : Int) 1) 1000 = 1 from by decide, Int.one_mul]
  omega
def hpP : Nat → Hp
  | 0 => newM 1 1
  | i + 1 => addedM (hpP i) ⟨true, newObj 0 ((hpP i).protos.getD 0 0)⟩
structure HpP (i : Nat) (hp : Hp) : Prop where
  base : hp.base = 1
  stride : hp.stride = 1
  len : hp.slots.length = 12 + i
  free : hp.free = []
  live : hp.live = ((12 + i : Nat) : Int)
  glob : hp.global = 12
  text : hp.texts = 11
  prot : hp.protos = [1, 2, 3, 3, 4, 5, 6, 7, 8, 0, 9, 10]
theorem hpP_ok : ∀ i, HpP i (hpP i)
  | 0 => ⟨rfl, rfl, rfl, rfl, rfl, by decide, by decide, by decide⟩
  | i + 1 => by
    have h := hpP_ok i
    refine ⟨h.base, h.stride, ?_, h.free, ?_, h.glob, h.text, h.prot⟩
    · show ((hpP i).slots ++ [_]).length = _
      rw [List.length_append, h.len]; simp; omega
    · show (hpP i).live + 1 = _
      rw [h.live]; omega
def ofVal : Val := ⟨3, 1, ⟨#[]⟩, 0⟩
def frP (a i : Nat) : List Frm := (List.range (min i a)).map fun q => pushF 5 0 [refV (oR q), ofVal, refV (oR q)]
def jbP (a i : Nat) : List Job := (List.range (i - a)).map fun q => ⟨4, [refV (oR (a + q)), refV 12]⟩
def lsP (i : Nat) : List Int := (List.range i).map oR
theorem lsP_succ (i : Nat) : lsP (i + 1) = lsP i ++ [oR i] := by unfold lsP; rw [List.range_succ, List.map_append]; rfl
theorem lsP_len (i : Nat) : (lsP i).length = i := by simp [lsP]
theorem frP_lt {a i : Nat} (h : i < a) : frP a (i + 1) = frP a i ++ [pushF 5 0 [refV (oR i), ofVal, refV (oR i)]] := by
  unfold frP; rw [Nat.min_eq_left (by omega), Nat.min_eq_left (by omega), List.range_succ, List.map_append]; rfl
theorem frP_ge {a i : Nat} (h : a ≤ i) : frP a (i + 1) = frP a i := by unfold frP; rw [Nat.min_eq_right (by omega), Nat.min_eq_right (by omega)]
theorem jbP_lt {a i : Nat} (h : i < a) : jbP a (i + 1) = jbP a i := by unfold jbP; rw [show i + 1 - a = 0 from by omega, show i - a = 0 from by omega]
theorem jbP_ge {a i : Nat} (h : a ≤ i) : jbP a (i + 1) = jbP a i ++ [⟨4, [refV (oR i), refV 12]⟩] := by
  unfold jbP; rw [show i + 1 - a = (i - a) + 1 from by omega, List.range_succ, List.map_append]
  rw [show oR i = oR (a + (i - a)) from by rw [show a + (i - a) = i from by omega]]; rfl
theorem frP_len (a i : Nat) : (frP a i).length ≤ i := by unfold frP; simp; omega
theorem jbP_len (a i : Nat) : (jbP a i).length ≤ i := by unfold jbP; simp

/-! ### The roots, plainly -/
def protL : List Int := [1, 2, 3, 3, 4, 5, 6, 7, 8, 0, 9, 10]
def wantL : List Int := [12, 11, 1, 2, 3, 4, 5, 6, 7, 8, 9, 10]
theorem want_all : protL.foldl ddS [12, 11] = wantL := by decide
theorem refs_push (q : Nat) : frameRefs (pushF 5 0 [refV (oR q), ofVal, refV (oR q)]) = [0, 0, oR q, oR q] := by
  unfold frameRefs pushF
  simp [refsV, refOf, Frm.this, refV, ofVal]
theorem frames_refs (a i : Nat) : framesM (frP a i) = (List.range (min i a)).flatMap fun q => [oR q, oR q] := by
  unfold framesM frP
  rw [List.flatMap_map]
  generalize min i a = m
  induction m with
  | zero => rfl
  | succ m ih =>
    rw [List.range_succ, List.flatMap_append, List.flatMap_append, nz_app, ih]
    congr 1
    have h0 : ¬ oR m = 0 := by unfold oR; omega
    simp [refs_push, nz, h0]
theorem fm_congr' {α β : Type} {f g : α → List β} : ∀ l : List α, (∀ x ∈ l, f x = g x) → l.flatMap f = l.flatMap g
  | [], _ => rfl
  | a :: l, h => by rw [List.flatMap_cons, List.flatMap_cons, h a (by simp), fm_congr' l fun x hx => h x (by simp [hx])]
theorem jobs_refs (a i : Nat) : ((jbP a i).flatMap fun j => refsV j.values) = (List.range (i - a)).flatMap fun q => [oR (a + q), 12] := by
  unfold jbP
  rw [List.flatMap_map]
  refine fm_congr' _ fun q _ => ?_
  simp [refsV, refOf, refV]
theorem dd_new {P : List Int} {o : Int} (h0 : o ≠ 0) (h : o ∉ P) : ddS P o = P ++ [o] := by unfold ddS; rw [if_neg (by simp [h0, h])]
theorem dd_old {P : List Int} {o : Int} (h : o ∈ P) : ddS P o = P := by unfold ddS; rw [if_pos (.inr h)]
theorem oR_new (q : Nat) : oR q ∉ wantL ++ lsP q := by
  intro h
  rcases List.mem_append.1 h with x | x
  · unfold wantL oR at x; simp at x; omega
  · unfold lsP at x
    obtain ⟨p, hp, e⟩ := List.mem_map.1 x
    have := List.mem_range.1 hp
    unfold oR at e; omega
theorem oR_nz (q : Nat) : oR q ≠ 0 := by unfold oR; omega
theorem dd_frames : ∀ m, ((List.range m).flatMap fun q => [oR q, oR q]).foldl ddS wantL = wantL ++ lsP m
  | 0 => by simp [lsP]
  | m + 1 => by
    rw [List.range_succ, List.flatMap_append, List.foldl_append, dd_frames m]
    show ddS (ddS (wantL ++ lsP m) (oR m)) (oR m) = _
    rw [dd_new (oR_nz m) (oR_new m), dd_old (by simp), lsP_succ, List.append_assoc]
theorem dd_jobs (a : Nat) : ∀ m, ((List.range m).flatMap fun q => [oR (a + q), 12]).foldl ddS (wantL ++ lsP a) = wantL ++ lsP (a + m)
  | 0 => by simp
  | m + 1 => by
    rw [List.range_succ, List.flatMap_append, List.foldl_append, dd_jobs a m]
    show ddS (ddS (wantL ++ lsP (a + m)) (oR (a + m))) 12 = _
    rw [dd_new (oR_nz _) (oR_new _), dd_old (by simp [wantL]), ← Nat.add_assoc, lsP_succ, List.append_assoc]
theorem roots_all {hp : Hp} {a i : Nat} (h : HpP i hp) : dedupe (rootsL hp (frP a i) (jbP a i)) = wantL ++ lsP i := by
  unfold rootsL dedupe
  rw [h.glob, h.text, h.prot, frames_refs, jobs_refs, List.foldl_append, List.foldl_append, List.foldl_append]
  rw [show ([12, 11] : List Int).foldl ddS [] = [12, 11] from by decide, show ([1, 2, 3, 3, 4, 5, 6, 7, 8, 0, 9, 10] : List Int).foldl ddS [12, 11] = wantL from want_all, dd_frames]
  by_cases h : i ≤ a
  · rw [Nat.min_eq_left h, show i - a = 0 from by omega]; rfl
  · rw [Nat.min_eq_right (by omega), dd_jobs, show a + (i - a) = i from by omega]
theorem roots_in {hp : Hp} {a i : Nat} (h : HpP i hp) (hi : i ≤ 1000) : ∀ r ∈ rootsL hp (frP a i) (jbP a i), -9223372036854775808 ≤ r ∧ r ≤ 9223372036854775807 := fun r hr => by
  unfold rootsL at hr
  rw [h.glob, h.text, h.prot, frames_refs, jobs_refs] at hr
  simp only [List.mem_append, List.mem_flatMap, List.mem_range, List.mem_cons, List.not_mem_nil, or_false] at hr
  unfold oR at hr
  rcases hr with ((hr | hr) | ⟨q, hq, hr⟩) | ⟨q, hq, hr⟩ <;> omega
end Go.Proofs.Ythiiehanlconeaa
