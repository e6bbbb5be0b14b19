/-
  machine.Push; the queue of jobs and its Push.
-/
import Derived.Test.YthiiehanlconeaaJoi
import Derived.Test.YthiiehanlconeaaHeldT
namespace Go.Proofs.Ythiiehanlconeaa
open Go.RowKit
set_option linter.unusedVariables false
set_option linter.unusedSimpArgs false

structure Job where
  kind : Int
  values : List Val
def Job.Own (w : World) (cs : List Value) (s : Job) (F : List Nat) : Prop :=
  ∃ vvalues, ∃ Fvalues, cs = [.int .i64 s.kind, vvalues] ∧ ((valR).row 63).own w [vvalues] s.values Fvalues ∧ F = Fvalues
def jobR : Rep Job where
  n := 2
  own := Job.Own
  len := by rintro w cs s F ⟨vvalues, _, rfl, hvalues, rfl⟩; rfl
  lt := by
    rintro w cs s F ⟨vvalues, _, rfl, hvalues, rfl⟩ k hk
    · exact ((valR).row 63).lt hvalues k hk
  keep := by
    rintro w w2 cs s F ⟨vvalues, _, rfl, hvalues, rfl⟩ hk
    exact ⟨_, _, rfl, ((valR).row 63).keep hvalues (fun k hm => hk k (by simp [hm])), rfl⟩
theorem jobR_kind : FieldOf jobR (Rep.int .i64) 0 (·.kind) (fun s y => { s with kind := y }) := by
  refine ⟨by show 0 + 1 ≤ 2; omega, ?_⟩
  rintro w cs s F ⟨vvalues, _, rfl, hvalues, rfl⟩
  refine ⟨F, [], [], by simp, ⟨rfl, rfl⟩, fun w2 ys y G hk hy => ?_⟩
  obtain ⟨rfl, rfl⟩ := hy
  exact ⟨_, _, rfl, ((valR).row 63).keep hvalues (fun k hm => hk k (by simp [hm])), by simp⟩
theorem jobR_values : FieldOf jobR ((valR).row 63) 1 (·.values) (fun s y => { s with values := y }) := by
  refine ⟨by show 1 + 1 ≤ 2; omega, ?_⟩
  rintro w cs s F ⟨vvalues, _, rfl, hvalues, rfl⟩
  refine ⟨[], F, [], by simp, hvalues, fun w2 ys y G hk hy => ?_⟩
  obtain ⟨y0, rfl⟩ : ∃ y0, ys = [y0] := List.length_eq_one_iff.1 (((valR).row 63).len hy)
  exact ⟨_, G, rfl, hy, by simp⟩

theorem elem_job : Elem Try.prog 69 2 32 := elem_of (by kernel_rfl)
theorem valC_ones (l : List Val) : Ones (l.flatMap Val.cells) := fun u hu => by
  obtain ⟨a, -, hu⟩ := List.mem_flatMap.1 hu
  unfold Val.cells at hu
  simp only [List.mem_cons, List.not_mem_nil, or_false] at hu
  rcases hu with rfl | rfl | rfl | rfl <;> rfl
def pushF (host phase : Int) (vals : List Val) : Frm := ⟨2, 0, 0, 0, 0, ⟨#[]⟩, 0, [], [], 0, 0, 0, 0, host, phase, vals⟩
/-- A row at a place, about to be lengthened by one; and the way back. -/
theorem Here.rowAppending {β : Type} {B : Rep β} {e : TypeId} {w : World} {b o : Nat} {l : List β} {F : List Nat} (H : Here (B.row e) w b o l F) :
    ∃ p cap xs Fs, w.cell? ⟨b, o, none⟩ = some (.slice p l.length cap) ∧ RowOpen B e w (.slice p l.length cap) l F xs Fs ∧ w.frozen? ⟨b, o, none⟩ = false ∧
      (∀ w1 w3, Chg (fun _ => False) w w1 → Chg (fun j => (Value.slice p l.length cap).ownBlock = some j) w1 w3 → w3.cell? ⟨b, o, none⟩ = some (.slice p l.length cap) ∧ w3.frozen? ⟨b, o, none⟩ = false) ∧
      ∀ w1 w3 x y G v2, Chg (fun _ => False) w w1 → B.own w1 x y G → (∀ j ∈ G, w.heap.size ≤ j) → G.Nodup → RowAt w3 e B.n v2 (l.length + 1) (xs.flatten ++ x) →
        Chg (fun j => (Value.slice p l.length cap).ownBlock = some j) w1 w3 → (∀ j, v2.ownBlock = some j → (Value.slice p l.length cap).ownBlock = some j ∨ w1.heap.size ≤ j) →
        Post (B.row e) w b o (l ++ [y]) F (w3.setCell ⟨b, o, none⟩ v2) := by
  obtain ⟨p, cap, xs, Fs, q1, q2, -, -, q5, q6⟩ := H.appending
  exact ⟨p, cap, xs, Fs, q1, q2, q5, q6, fun w1 w3 x y G v2 k1 k2 k3 k4 k5 k6 k7 => q2.push H k1 k2 k3 k4 k5 k6 k7⟩
set_option maxHeartbeats 800000 in
set_option maxRecDepth 100000 in
theorem crowded_any (w : World) (bs n cap : Nat) (p : Option Addr) (c0 : w.cell? ⟨bs, 0, none⟩ = some (.slice p n cap)) (hn : n < 256) :
    Calls Try.prog 35 #[.pointer (some ⟨bs, 0, none⟩)] w fun e w' => e = .returned (.bool false) ∧ w' = w := by
  have z : decide ((256 : Int) ≤ (n : Int)) = false := decide_eq_false (by omega)
  clear hn
  go_enter Try.func35, Try.ntmps35
  go_wp2_with fail
  go_ret
  exact ⟨rfl, rfl⟩
set_option maxHeartbeats 6400000 in
set_option maxRecDepth 100000 in
theorem push_any (w : World) (bs : Nat) (frames : List Frm) (F : List Nat) (host phase : Int) (vv : Value) (vals : List Val) (H : Here (frmR.row 101) w bs 0 frames F) (hl : frames.length < 256)
    (hv : RowAt w 63 4 vv vals.length (vals.flatMap Val.cells)) (hvl : vals.length ≤ 100) :
    Calls Try.prog 16 #[.pointer (some ⟨bs, 0, none⟩), .int .i64 host, .int .i64 phase, vv] w fun e w' => e = .returned (.int .i64 0) ∧ Post (frmR.row 101) w bs 0 (frames ++ [pushF host phase vals]) F w' := by
  obtain ⟨p, cap, xs', Fs, c0, hopen, fz, hstay, hback⟩ := H.rowAppending
  have HCR := Lib.hid (crowded_any w bs frames.length cap p c0 hl)
  obtain ⟨av, kv, rfl, -⟩ := hv.slice
  have HV := Lib.hid hv
  have HVL := Lib.hid hvl
  have HOPN := Lib.hid hopen
  have HST := Lib.hid hstay
  have HBA := Lib.hid hback
  have HC0 := Lib.hid c0
  have HLE : Hid (frames.length ≤ 1000) := Lib.hid (by omega)
  have HE := Lib.hid elem_frm
  have HEV := Lib.hid elem_val
  clear H hl hv hvl hopen hstay hback c0
  go_enter Try.func16, Try.ntmps16
  go_upto_region 4 with (go_at_call 35; refine HCR.out.mono ?_; rintro e w1 ⟨rfl, hw⟩; have hw := hw.symm; subst hw)
  have hb1 := alloc_block w (.cells #[.int .i64 2, .int .i64 0, .int .i64 0, .int .i64 0, .int .i64 0, .string ⟨#[]⟩, .int .i64 0, .slice none 0 0, .slice none 0 0, .int .i64 0, .int .i64 0, .int .i64 0, .int .i64 0, .int .i64 host, .int .i64 phase, .slice none 0 0] 101)
  have HB1 := Lib.hid hb1
  have HC1 := Lib.hid (Chg.alloc (fun _ => False) w (.cells #[.int .i64 2, .int .i64 0, .int .i64 0, .int .i64 0, .int .i64 0, .string ⟨#[]⟩, .int .i64 0, .slice none 0 0, .slice none 0 0, .int .i64 0, .int .i64 0, .int .i64 0, .int .i64 0, .int .i64 host, .int .i64 phase, .slice none 0 0] 101))
  have d15 := cell_of_block (i := 15) hb1 rfl
  simp only [List.getElem_toArray, List.getElem_cons_zero, List.getElem_cons_succ] at d15
  have hsz : w.heap.size < (w.alloc (.cells #[.int .i64 2, .int .i64 0, .int .i64 0, .int .i64 0, .int .i64 0, .string ⟨#[]⟩, .int .i64 0, .slice none 0 0, .slice none 0 0, .int .i64 0, .int .i64 0, .int .i64 0, .int .i64 0, .int .i64 host, .int .i64 phase, .slice none 0 0] 101)).heap.size := by rw [World.size_alloc]; omega
  have HSZ := Lib.hid hsz
  have HVA := Lib.hid (HV.out.alloc (.cells #[.int .i64 2, .int .i64 0, .int .i64 0, .int .i64 0, .int .i64 0, .string ⟨#[]⟩, .int .i64 0, .slice none 0 0, .slice none 0 0, .int .i64 0, .int .i64 0, .int .i64 0, .int .i64 0, .int .i64 host, .int .i64 phase, .slice none 0 0] 101))
  clear hb1 hsz
  generalize w.alloc (.cells #[.int .i64 2, .int .i64 0, .int .i64 0, .int .i64 0, .int .i64 0, .string ⟨#[]⟩, .int .i64 0, .slice none 0 0, .slice none 0 0, .int .i64 0, .int .i64 0, .int .i64 0, .int .i64 0, .int .i64 host, .int .i64 phase, .slice none 0 0] 101) = W1 at *
  generalize hbf : w.heap.size = bf at *
  have HBF := Lib.hid hbf
  clear hbf
  go_upto_region 5 with (at_builtin; refine list_append_rows (by rfl) _ _ _ (by rfl) 63 4 40 Try.underlying66 HEV.out (by decide) _ 0 [] (by rfl) (RowAt.nil _ _ _) _ vals.length (vals.flatMap Val.cells) (by rfl) HVA.out (valC_ones vals) (by have := HVL.out; unfold maxLen; omega) (by have := HVL.out; omega) ?_; intro a1 n1 c1 w2 hrow hchg hold; have cc := cell_of_block (i := 15) (hchg.keep HB1.out (by simp [Value.ownBlock])) rfl; have ff := frozen_of_block (i := 15) (hchg.keep HB1.out (by simp [Value.ownBlock])); simp only [List.getElem_toArray, List.getElem_cons_zero, List.getElem_cons_succ] at cc)
  rw [Nat.zero_add, List.nil_append] at hrow
  have hb3 : (w2.setCell ⟨bf, 15, none⟩ (.slice a1 n1 c1)).heap[bf]? = some (.cells #[.int .i64 2, .int .i64 0, .int .i64 0, .int .i64 0, .int .i64 0, .string ⟨#[]⟩, .int .i64 0, .slice none 0 0, .slice none 0 0, .int .i64 0, .int .i64 0, .int .i64 0, .int .i64 0, .int .i64 host, .int .i64 phase, .slice a1 n1 c1] 101 (0, 0)) := setCell_block (.slice a1 n1 c1) (hchg.keep HB1.out (by simp [Value.ownBlock]))
  have hne : ∀ k, (Value.slice a1 n1 c1).ownBlock = some k → w.heap.size + 1 ≤ k := fun k hk => by
    rcases hold k hk with x | x
    · simp [Value.ownBlock] at x
    · have := HSZ.out; have := HBF.out; omega
  have hv3 := hrow.chg (w' := w2.setCell ⟨bf, 15, none⟩ (.slice a1 n1 c1)) (Chg.setCell _ _ _) (fun k hk e => by have e' : k = bf := e; have := hne k hk; have := HBF.out; omega)
  have ho3 := ofRow_flat (n := 4) (f := Val.cells) (hf := Val.len) hv3
  have HOY := Lib.hid (frm_mk (s := pushF host phase vals) (vals_nil _) (vals_nil _) ho3)
  have HC3 := Lib.hid (((HC1.out.trans hchg (fun _ _ x => x) (fun i hi x => by simp [Value.ownBlock] at x)).trans (Chg.setCell w2 ⟨bf, 15, none⟩ (.slice a1 n1 c1)) (fun _ _ x => x) (fun i hi e => by have e' : i = bf := e; have := HBF.out; omega) : Chg (fun _ => False) w (w2.setCell ⟨bf, 15, none⟩ (.slice a1 n1 c1))))
  have HGG : Hid ((∀ j ∈ [] ++ [] ++ ownL (.slice a1 n1 c1), bf ≤ j) ∧ ([] ++ [] ++ ownL (.slice a1 n1 c1)).Nodup) := Lib.hid ⟨fun j hj => by have := hne j (mem_ownL.1 (by simpa using hj)); have := HBF.out; omega, by cases a1 <;> simp [ownL, Value.ownBlock]⟩
  have hopen := HOPN.out
  have HN1 : Hid (¬ (Value.slice p frames.length cap).ownBlock = some bf) := Lib.hid (fun hj => by have := hopen.row.lt _ hj; have := HBF.out; omega)
  clear hrow hchg hold hv3 ho3 hne cc ff HB1 HVA HV HC1 HEV d15
  generalize w2.setCell ⟨bf, 15, none⟩ (.slice a1 n1 c1) = W3 at *
  have nc0 := cell_of_block (i := 0) hb3 rfl
  have nc1 := cell_of_block (i := 1) hb3 rfl
  have nc2 := cell_of_block (i := 2) hb3 rfl
  have nc3 := cell_of_block (i := 3) hb3 rfl
  have nc4 := cell_of_block (i := 4) hb3 rfl
  have nc5 := cell_of_block (i := 5) hb3 rfl
  have nc6 := cell_of_block (i := 6) hb3 rfl
  have nc7 := cell_of_block (i := 7) hb3 rfl
  have nc8 := cell_of_block (i := 8) hb3 rfl
  have nc9 := cell_of_block (i := 9) hb3 rfl
  have nc10 := cell_of_block (i := 10) hb3 rfl
  have nc11 := cell_of_block (i := 11) hb3 rfl
  have nc12 := cell_of_block (i := 12) hb3 rfl
  have nc13 := cell_of_block (i := 13) hb3 rfl
  have nc14 := cell_of_block (i := 14) hb3 rfl
  have nc15 := cell_of_block (i := 15) hb3 rfl
  simp only [List.getElem_toArray, List.getElem_cons_zero, List.getElem_cons_succ] at nc0 nc1 nc2 nc3 nc4 nc5 nc6 nc7 nc8 nc9 nc10 nc11 nc12 nc13 nc14 nc15
  have HS0 : Hid (W3.cell? ⟨bs, 0, none⟩ = some (.slice p frames.length cap) ∧ W3.cell? ⟨bf, 0, none⟩ = some (.int .i64 2) ∧ W3.cell? ⟨bf, 1, none⟩ = some (.int .i64 0) ∧ W3.cell? ⟨bf, 2, none⟩ = some (.int .i64 0) ∧ W3.cell? ⟨bf, 3, none⟩ = some (.int .i64 0) ∧ W3.cell? ⟨bf, 4, none⟩ = some (.int .i64 0) ∧ W3.cell? ⟨bf, 5, none⟩ = some (.string ⟨#[]⟩) ∧ W3.cell? ⟨bf, 6, none⟩ = some (.int .i64 0) ∧ W3.cell? ⟨bf, 7, none⟩ = some (.slice none 0 0) ∧ W3.cell? ⟨bf, 8, none⟩ = some (.slice none 0 0) ∧ W3.cell? ⟨bf, 9, none⟩ = some (.int .i64 0) ∧ W3.cell? ⟨bf, 10, none⟩ = some (.int .i64 0) ∧ W3.cell? ⟨bf, 11, none⟩ = some (.int .i64 0) ∧ W3.cell? ⟨bf, 12, none⟩ = some (.int .i64 0) ∧ W3.cell? ⟨bf, 13, none⟩ = some (.int .i64 host) ∧ W3.cell? ⟨bf, 14, none⟩ = some (.int .i64 phase) ∧ W3.cell? ⟨bf, 15, none⟩ = some (.slice a1 n1 c1)) := Lib.hid ⟨HC3.out.cell HC0.out, nc0, nc1, nc2, nc3, nc4, nc5, nc6, nc7, nc8, nc9, nc10, nc11, nc12, nc13, nc14, nc15⟩
  clear hb3 nc0 nc1 nc2 nc3 nc4 nc5 nc6 nc7 nc8 nc9 nc10 nc11 nc12 nc13 nc14 nc15
  refine wp_region_held_split 10 (fun w' => w'.cell? ⟨bs, 0, none⟩ = some (.slice p frames.length cap) ∧ w'.cell? ⟨bf, 0, none⟩ = some (.int .i64 2) ∧ w'.cell? ⟨bf, 1, none⟩ = some (.int .i64 0) ∧ w'.cell? ⟨bf, 2, none⟩ = some (.int .i64 0) ∧ w'.cell? ⟨bf, 3, none⟩ = some (.int .i64 0) ∧ w'.cell? ⟨bf, 4, none⟩ = some (.int .i64 0) ∧ w'.cell? ⟨bf, 5, none⟩ = some (.string ⟨#[]⟩) ∧ w'.cell? ⟨bf, 6, none⟩ = some (.int .i64 0) ∧ w'.cell? ⟨bf, 7, none⟩ = some (.slice none 0 0) ∧ w'.cell? ⟨bf, 8, none⟩ = some (.slice none 0 0) ∧ w'.cell? ⟨bf, 9, none⟩ = some (.int .i64 0) ∧ w'.cell? ⟨bf, 10, none⟩ = some (.int .i64 0) ∧ w'.cell? ⟨bf, 11, none⟩ = some (.int .i64 0) ∧ w'.cell? ⟨bf, 12, none⟩ = some (.int .i64 0) ∧ w'.cell? ⟨bf, 13, none⟩ = some (.int .i64 host) ∧ w'.cell? ⟨bf, 14, none⟩ = some (.int .i64 phase) ∧ w'.cell? ⟨bf, 15, none⟩ = some (.slice a1 n1 c1)) (by kernel_rfl) (by kernel_rfl) ?_ (fun hHeld => ?_)
  · (first | exact HS0.out | exact HKS.out _ (Chg.refl _ _) | exact HKS.out _ (Chg.alloc _ _ _) | exact ⟨cc2, hchg2.cellS (HKS.out _ (Chg.alloc _ wD (.cells #[.int .i64 2, .int .i64 0, .int .i64 0, .int .i64 0, .int .i64 0, .string ⟨#[]⟩, .int .i64 0, .slice none 0 0, .slice none 0 0, .int .i64 0, .int .i64 0, .int .i64 0, .int .i64 0, .int .i64 host, .int .i64 phase, .slice a1 n1 c1] 101))).2.1 HN1.out, hchg2.cellS (HKS.out _ (Chg.alloc _ wD (.cells #[.int .i64 2, .int .i64 0, .int .i64 0, .int .i64 0, .int .i64 0, .string ⟨#[]⟩, .int .i64 0, .slice none 0 0, .slice none 0 0, .int .i64 0, .int .i64 0, .int .i64 0, .int .i64 0, .int .i64 host, .int .i64 phase, .slice a1 n1 c1] 101))).2.2.1 HN1.out, hchg2.cellS (HKS.out _ (Chg.alloc _ wD (.cells #[.int .i64 2, .int .i64 0, .int .i64 0, .int .i64 0, .int .i64 0, .string ⟨#[]⟩, .int .i64 0, .slice none 0 0, .slice none 0 0, .int .i64 0, .int .i64 0, .int .i64 0, .int .i64 0, .int .i64 host, .int .i64 phase, .slice a1 n1 c1] 101))).2.2.2.1 HN1.out, hchg2.cellS (HKS.out _ (Chg.alloc _ wD (.cells #[.int .i64 2, .int .i64 0, .int .i64 0, .int .i64 0, .int .i64 0, .string ⟨#[]⟩, .int .i64 0, .slice none 0 0, .slice none 0 0, .int .i64 0, .int .i64 0, .int .i64 0, .int .i64 0, .int .i64 host, .int .i64 phase, .slice a1 n1 c1] 101))).2.2.2.2.1 HN1.out, hchg2.cellS (HKS.out _ (Chg.alloc _ wD (.cells #[.int .i64 2, .int .i64 0, .int .i64 0, .int .i64 0, .int .i64 0, .string ⟨#[]⟩, .int .i64 0, .slice none 0 0, .slice none 0 0, .int .i64 0, .int .i64 0, .int .i64 0, .int .i64 0, .int .i64 host, .int .i64 phase, .slice a1 n1 c1] 101))).2.2.2.2.2.1 HN1.out, hchg2.cellS (HKS.out _ (Chg.alloc _ wD (.cells #[.int .i64 2, .int .i64 0, .int .i64 0, .int .i64 0, .int .i64 0, .string ⟨#[]⟩, .int .i64 0, .slice none 0 0, .slice none 0 0, .int .i64 0, .int .i64 0, .int .i64 0, .int .i64 0, .int .i64 host, .int .i64 phase, .slice a1 n1 c1] 101))).2.2.2.2.2.2.1 HN1.out, hchg2.cellS (HKS.out _ (Chg.alloc _ wD (.cells #[.int .i64 2, .int .i64 0, .int .i64 0, .int .i64 0, .int .i64 0, .string ⟨#[]⟩, .int .i64 0, .slice none 0 0, .slice none 0 0, .int .i64 0, .int .i64 0, .int .i64 0, .int .i64 0, .int .i64 host, .int .i64 phase, .slice a1 n1 c1] 101))).2.2.2.2.2.2.2.1 HN1.out, hchg2.cellS (HKS.out _ (Chg.alloc _ wD (.cells #[.int .i64 2, .int .i64 0, .int .i64 0, .int .i64 0, .int .i64 0, .string ⟨#[]⟩, .int .i64 0, .slice none 0 0, .slice none 0 0, .int .i64 0, .int .i64 0, .int .i64 0, .int .i64 0, .int .i64 host, .int .i64 phase, .slice a1 n1 c1] 101))).2.2.2.2.2.2.2.2.1 HN1.out, hchg2.cellS (HKS.out _ (Chg.alloc _ wD (.cells #[.int .i64 2, .int .i64 0, .int .i64 0, .int .i64 0, .int .i64 0, .string ⟨#[]⟩, .int .i64 0, .slice none 0 0, .slice none 0 0, .int .i64 0, .int .i64 0, .int .i64 0, .int .i64 0, .int .i64 host, .int .i64 phase, .slice a1 n1 c1] 101))).2.2.2.2.2.2.2.2.2.1 HN1.out, hchg2.cellS (HKS.out _ (Chg.alloc _ wD (.cells #[.int .i64 2, .int .i64 0, .int .i64 0, .int .i64 0, .int .i64 0, .string ⟨#[]⟩, .int .i64 0, .slice none 0 0, .slice none 0 0, .int .i64 0, .int .i64 0, .int .i64 0, .int .i64 0, .int .i64 host, .int .i64 phase, .slice a1 n1 c1] 101))).2.2.2.2.2.2.2.2.2.2.1 HN1.out, hchg2.cellS (HKS.out _ (Chg.alloc _ wD (.cells #[.int .i64 2, .int .i64 0, .int .i64 0, .int .i64 0, .int .i64 0, .string ⟨#[]⟩, .int .i64 0, .slice none 0 0, .slice none 0 0, .int .i64 0, .int .i64 0, .int .i64 0, .int .i64 0, .int .i64 host, .int .i64 phase, .slice a1 n1 c1] 101))).2.2.2.2.2.2.2.2.2.2.2.1 HN1.out, hchg2.cellS (HKS.out _ (Chg.alloc _ wD (.cells #[.int .i64 2, .int .i64 0, .int .i64 0, .int .i64 0, .int .i64 0, .string ⟨#[]⟩, .int .i64 0, .slice none 0 0, .slice none 0 0, .int .i64 0, .int .i64 0, .int .i64 0, .int .i64 0, .int .i64 host, .int .i64 phase, .slice a1 n1 c1] 101))).2.2.2.2.2.2.2.2.2.2.2.2.1 HN1.out, hchg2.cellS (HKS.out _ (Chg.alloc _ wD (.cells #[.int .i64 2, .int .i64 0, .int .i64 0, .int .i64 0, .int .i64 0, .string ⟨#[]⟩, .int .i64 0, .slice none 0 0, .slice none 0 0, .int .i64 0, .int .i64 0, .int .i64 0, .int .i64 0, .int .i64 host, .int .i64 phase, .slice a1 n1 c1] 101))).2.2.2.2.2.2.2.2.2.2.2.2.2.1 HN1.out, hchg2.cellS (HKS.out _ (Chg.alloc _ wD (.cells #[.int .i64 2, .int .i64 0, .int .i64 0, .int .i64 0, .int .i64 0, .string ⟨#[]⟩, .int .i64 0, .slice none 0 0, .slice none 0 0, .int .i64 0, .int .i64 0, .int .i64 0, .int .i64 0, .int .i64 host, .int .i64 phase, .slice a1 n1 c1] 101))).2.2.2.2.2.2.2.2.2.2.2.2.2.2.1 HN1.out, hchg2.cellS (HKS.out _ (Chg.alloc _ wD (.cells #[.int .i64 2, .int .i64 0, .int .i64 0, .int .i64 0, .int .i64 0, .string ⟨#[]⟩, .int .i64 0, .slice none 0 0, .slice none 0 0, .int .i64 0, .int .i64 0, .int .i64 0, .int .i64 0, .int .i64 host, .int .i64 phase, .slice a1 n1 c1] 101))).2.2.2.2.2.2.2.2.2.2.2.2.2.2.2.1 HN1.out, hchg2.cellS (HKS.out _ (Chg.alloc _ wD (.cells #[.int .i64 2, .int .i64 0, .int .i64 0, .int .i64 0, .int .i64 0, .string ⟨#[]⟩, .int .i64 0, .slice none 0 0, .slice none 0 0, .int .i64 0, .int .i64 0, .int .i64 0, .int .i64 0, .int .i64 host, .int .i64 phase, .slice a1 n1 c1] 101))).2.2.2.2.2.2.2.2.2.2.2.2.2.2.2.2 HN1.out⟩)
  simp only [List.take_succ_cons, List.take_zero]
  have HKS : Hid (∀ W, Chg (fun _ => False) W3.drew W → W.cell? ⟨bs, 0, none⟩ = some (.slice p frames.length cap) ∧ W.cell? ⟨bf, 0, none⟩ = some (.int .i64 2) ∧ W.cell? ⟨bf, 1, none⟩ = some (.int .i64 0) ∧ W.cell? ⟨bf, 2, none⟩ = some (.int .i64 0) ∧ W.cell? ⟨bf, 3, none⟩ = some (.int .i64 0) ∧ W.cell? ⟨bf, 4, none⟩ = some (.int .i64 0) ∧ W.cell? ⟨bf, 5, none⟩ = some (.string ⟨#[]⟩) ∧ W.cell? ⟨bf, 6, none⟩ = some (.int .i64 0) ∧ W.cell? ⟨bf, 7, none⟩ = some (.slice none 0 0) ∧ W.cell? ⟨bf, 8, none⟩ = some (.slice none 0 0) ∧ W.cell? ⟨bf, 9, none⟩ = some (.int .i64 0) ∧ W.cell? ⟨bf, 10, none⟩ = some (.int .i64 0) ∧ W.cell? ⟨bf, 11, none⟩ = some (.int .i64 0) ∧ W.cell? ⟨bf, 12, none⟩ = some (.int .i64 0) ∧ W.cell? ⟨bf, 13, none⟩ = some (.int .i64 host) ∧ W.cell? ⟨bf, 14, none⟩ = some (.int .i64 phase) ∧ W.cell? ⟨bf, 15, none⟩ = some (.slice a1 n1 c1)) := Lib.hid (fun W hc => ⟨hc.cell HS0.out.1, hc.cell HS0.out.2.1, hc.cell HS0.out.2.2.1, hc.cell HS0.out.2.2.2.1, hc.cell HS0.out.2.2.2.2.1, hc.cell HS0.out.2.2.2.2.2.1, hc.cell HS0.out.2.2.2.2.2.2.1, hc.cell HS0.out.2.2.2.2.2.2.2.1, hc.cell HS0.out.2.2.2.2.2.2.2.2.1, hc.cell HS0.out.2.2.2.2.2.2.2.2.2.1, hc.cell HS0.out.2.2.2.2.2.2.2.2.2.2.1, hc.cell HS0.out.2.2.2.2.2.2.2.2.2.2.2.1, hc.cell HS0.out.2.2.2.2.2.2.2.2.2.2.2.2.1, hc.cell HS0.out.2.2.2.2.2.2.2.2.2.2.2.2.2.1, hc.cell HS0.out.2.2.2.2.2.2.2.2.2.2.2.2.2.2.1, hc.cell HS0.out.2.2.2.2.2.2.2.2.2.2.2.2.2.2.2.1, hc.cell HS0.out.2.2.2.2.2.2.2.2.2.2.2.2.2.2.2.2⟩)
  have HRA : Hid (RowAt W3.drew 101 16 (.slice p frames.length cap) frames.length xs'.flatten) := Lib.hid ((hopen.row.chg HC3.out (fun _ _ x => x)).drew)
  have HWD : Hid (Chg (fun _ => False) w W3.drew) := Lib.hid HC3.out.drewR
  have HOYD := Lib.hid (frmR.chg HOY.out (Chg.refl (fun _ => False) W3).drewR (fun _ _ x => x))
  clear hopen HOY
  generalize W3.drew = wD at *
  refine wpAnyH_take (i := 0) (v := ?_) rfl (by kernel_rfl) (by kernel_rfl) (by kernel_rfl) (fun _ _ _ h => h) (Or.inl ⟨by rfl, ?_⟩) (by assumption) ?_
  rotate_left
  · (intro wq hSw; (try dsimp only at hSw); go_simp; (try with_reducible rfl))
  simp only [Act.put, List.getElem_toArray, List.getElem_cons_zero, List.getElem_cons_succ, List.setIfInBounds_toArray, List.set_cons_zero, List.set_cons_succ]
  refine wpAnyH_take (i := 1) (v := ?_) rfl (by kernel_rfl) (by kernel_rfl) (by kernel_rfl) (fun _ _ _ h => h) (Or.inl ⟨by rfl, ?_⟩) (by assumption) ?_
  rotate_left
  · (intro wq hSw; (try dsimp only at hSw); go_simp; (try with_reducible rfl))
  simp only [Act.put, List.getElem_toArray, List.getElem_cons_zero, List.getElem_cons_succ, List.setIfInBounds_toArray, List.set_cons_zero, List.set_cons_succ]
  refine wpAnyH_take (i := 2) (v := ?_) rfl (by kernel_rfl) (by kernel_rfl) (by kernel_rfl) (fun _ _ _ h => h) (Or.inl ⟨by rfl, ?_⟩) (by assumption) ?_
  rotate_left
  · (intro wq hSw; (try dsimp only at hSw); go_simp; (try with_reducible rfl))
  simp only [Act.put, List.getElem_toArray, List.getElem_cons_zero, List.getElem_cons_succ, List.setIfInBounds_toArray, List.set_cons_zero, List.set_cons_succ]
  refine wpAnyH_take (i := 3) (v := ?_) rfl (by kernel_rfl) (by kernel_rfl) (by kernel_rfl) (fun _ _ _ h => h) (Or.inl ⟨by rfl, ?_⟩) (by assumption) ?_
  rotate_left
  · (intro wq hSw; (try dsimp only at hSw); go_simp; (try with_reducible rfl))
  simp only [Act.put, List.getElem_toArray, List.getElem_cons_zero, List.getElem_cons_succ, List.setIfInBounds_toArray, List.set_cons_zero, List.set_cons_succ]
  refine wpAnyH_take (i := 4) (v := ?_) rfl (by kernel_rfl) (by kernel_rfl) (by kernel_rfl) (fun _ _ _ h => h) (Or.inl ⟨by rfl, ?_⟩) (by assumption) ?_
  rotate_left
  · (intro wq hSw; (try dsimp only at hSw); go_simp; (try with_reducible rfl))
  simp only [Act.put, List.getElem_toArray, List.getElem_cons_zero, List.getElem_cons_succ, List.setIfInBounds_toArray, List.set_cons_zero, List.set_cons_succ]
  refine wpAnyH_take (i := 5) (v := ?_) rfl (by kernel_rfl) (by kernel_rfl) (by kernel_rfl) (fun _ _ _ h => h) (Or.inl ⟨by rfl, ?_⟩) (by assumption) ?_
  rotate_left
  · (intro wq hSw; (try dsimp only at hSw); go_simp; (try with_reducible rfl))
  simp only [Act.put, List.getElem_toArray, List.getElem_cons_zero, List.getElem_cons_succ, List.setIfInBounds_toArray, List.set_cons_zero, List.set_cons_succ]
  refine wpAnyH_ready (rs := [6]) (by kernel_rfl) (by simp) ?_
  refine AllReadyH.cons (by simp only [List.getElem?_toArray, List.getElem?_cons_succ, List.getElem?_cons_zero]; rfl) (fun K hK => ?_) AllReadyH.nil
  go_simp
  refine hK.out _ _ ?_ (fun hHeld => ?_)
  · (first | exact HS0.out | exact HKS.out _ (Chg.refl _ _) | exact HKS.out _ (Chg.alloc _ _ _) | exact ⟨cc2, hchg2.cellS (HKS.out _ (Chg.alloc _ wD (.cells #[.int .i64 2, .int .i64 0, .int .i64 0, .int .i64 0, .int .i64 0, .string ⟨#[]⟩, .int .i64 0, .slice none 0 0, .slice none 0 0, .int .i64 0, .int .i64 0, .int .i64 0, .int .i64 0, .int .i64 host, .int .i64 phase, .slice a1 n1 c1] 101))).2.1 HN1.out, hchg2.cellS (HKS.out _ (Chg.alloc _ wD (.cells #[.int .i64 2, .int .i64 0, .int .i64 0, .int .i64 0, .int .i64 0, .string ⟨#[]⟩, .int .i64 0, .slice none 0 0, .slice none 0 0, .int .i64 0, .int .i64 0, .int .i64 0, .int .i64 0, .int .i64 host, .int .i64 phase, .slice a1 n1 c1] 101))).2.2.1 HN1.out, hchg2.cellS (HKS.out _ (Chg.alloc _ wD (.cells #[.int .i64 2, .int .i64 0, .int .i64 0, .int .i64 0, .int .i64 0, .string ⟨#[]⟩, .int .i64 0, .slice none 0 0, .slice none 0 0, .int .i64 0, .int .i64 0, .int .i64 0, .int .i64 0, .int .i64 host, .int .i64 phase, .slice a1 n1 c1] 101))).2.2.2.1 HN1.out, hchg2.cellS (HKS.out _ (Chg.alloc _ wD (.cells #[.int .i64 2, .int .i64 0, .int .i64 0, .int .i64 0, .int .i64 0, .string ⟨#[]⟩, .int .i64 0, .slice none 0 0, .slice none 0 0, .int .i64 0, .int .i64 0, .int .i64 0, .int .i64 0, .int .i64 host, .int .i64 phase, .slice a1 n1 c1] 101))).2.2.2.2.1 HN1.out, hchg2.cellS (HKS.out _ (Chg.alloc _ wD (.cells #[.int .i64 2, .int .i64 0, .int .i64 0, .int .i64 0, .int .i64 0, .string ⟨#[]⟩, .int .i64 0, .slice none 0 0, .slice none 0 0, .int .i64 0, .int .i64 0, .int .i64 0, .int .i64 0, .int .i64 host, .int .i64 phase, .slice a1 n1 c1] 101))).2.2.2.2.2.1 HN1.out, hchg2.cellS (HKS.out _ (Chg.alloc _ wD (.cells #[.int .i64 2, .int .i64 0, .int .i64 0, .int .i64 0, .int .i64 0, .string ⟨#[]⟩, .int .i64 0, .slice none 0 0, .slice none 0 0, .int .i64 0, .int .i64 0, .int .i64 0, .int .i64 0, .int .i64 host, .int .i64 phase, .slice a1 n1 c1] 101))).2.2.2.2.2.2.1 HN1.out, hchg2.cellS (HKS.out _ (Chg.alloc _ wD (.cells #[.int .i64 2, .int .i64 0, .int .i64 0, .int .i64 0, .int .i64 0, .string ⟨#[]⟩, .int .i64 0, .slice none 0 0, .slice none 0 0, .int .i64 0, .int .i64 0, .int .i64 0, .int .i64 0, .int .i64 host, .int .i64 phase, .slice a1 n1 c1] 101))).2.2.2.2.2.2.2.1 HN1.out, hchg2.cellS (HKS.out _ (Chg.alloc _ wD (.cells #[.int .i64 2, .int .i64 0, .int .i64 0, .int .i64 0, .int .i64 0, .string ⟨#[]⟩, .int .i64 0, .slice none 0 0, .slice none 0 0, .int .i64 0, .int .i64 0, .int .i64 0, .int .i64 0, .int .i64 host, .int .i64 phase, .slice a1 n1 c1] 101))).2.2.2.2.2.2.2.2.1 HN1.out, hchg2.cellS (HKS.out _ (Chg.alloc _ wD (.cells #[.int .i64 2, .int .i64 0, .int .i64 0, .int .i64 0, .int .i64 0, .string ⟨#[]⟩, .int .i64 0, .slice none 0 0, .slice none 0 0, .int .i64 0, .int .i64 0, .int .i64 0, .int .i64 0, .int .i64 host, .int .i64 phase, .slice a1 n1 c1] 101))).2.2.2.2.2.2.2.2.2.1 HN1.out, hchg2.cellS (HKS.out _ (Chg.alloc _ wD (.cells #[.int .i64 2, .int .i64 0, .int .i64 0, .int .i64 0, .int .i64 0, .string ⟨#[]⟩, .int .i64 0, .slice none 0 0, .slice none 0 0, .int .i64 0, .int .i64 0, .int .i64 0, .int .i64 0, .int .i64 host, .int .i64 phase, .slice a1 n1 c1] 101))).2.2.2.2.2.2.2.2.2.2.1 HN1.out, hchg2.cellS (HKS.out _ (Chg.alloc _ wD (.cells #[.int .i64 2, .int .i64 0, .int .i64 0, .int .i64 0, .int .i64 0, .string ⟨#[]⟩, .int .i64 0, .slice none 0 0, .slice none 0 0, .int .i64 0, .int .i64 0, .int .i64 0, .int .i64 0, .int .i64 host, .int .i64 phase, .slice a1 n1 c1] 101))).2.2.2.2.2.2.2.2.2.2.2.1 HN1.out, hchg2.cellS (HKS.out _ (Chg.alloc _ wD (.cells #[.int .i64 2, .int .i64 0, .int .i64 0, .int .i64 0, .int .i64 0, .string ⟨#[]⟩, .int .i64 0, .slice none 0 0, .slice none 0 0, .int .i64 0, .int .i64 0, .int .i64 0, .int .i64 0, .int .i64 host, .int .i64 phase, .slice a1 n1 c1] 101))).2.2.2.2.2.2.2.2.2.2.2.2.1 HN1.out, hchg2.cellS (HKS.out _ (Chg.alloc _ wD (.cells #[.int .i64 2, .int .i64 0, .int .i64 0, .int .i64 0, .int .i64 0, .string ⟨#[]⟩, .int .i64 0, .slice none 0 0, .slice none 0 0, .int .i64 0, .int .i64 0, .int .i64 0, .int .i64 0, .int .i64 host, .int .i64 phase, .slice a1 n1 c1] 101))).2.2.2.2.2.2.2.2.2.2.2.2.2.1 HN1.out, hchg2.cellS (HKS.out _ (Chg.alloc _ wD (.cells #[.int .i64 2, .int .i64 0, .int .i64 0, .int .i64 0, .int .i64 0, .string ⟨#[]⟩, .int .i64 0, .slice none 0 0, .slice none 0 0, .int .i64 0, .int .i64 0, .int .i64 0, .int .i64 0, .int .i64 host, .int .i64 phase, .slice a1 n1 c1] 101))).2.2.2.2.2.2.2.2.2.2.2.2.2.2.1 HN1.out, hchg2.cellS (HKS.out _ (Chg.alloc _ wD (.cells #[.int .i64 2, .int .i64 0, .int .i64 0, .int .i64 0, .int .i64 0, .string ⟨#[]⟩, .int .i64 0, .slice none 0 0, .slice none 0 0, .int .i64 0, .int .i64 0, .int .i64 0, .int .i64 0, .int .i64 host, .int .i64 phase, .slice a1 n1 c1] 101))).2.2.2.2.2.2.2.2.2.2.2.2.2.2.2.1 HN1.out, hchg2.cellS (HKS.out _ (Chg.alloc _ wD (.cells #[.int .i64 2, .int .i64 0, .int .i64 0, .int .i64 0, .int .i64 0, .string ⟨#[]⟩, .int .i64 0, .slice none 0 0, .slice none 0 0, .int .i64 0, .int .i64 0, .int .i64 0, .int .i64 0, .int .i64 host, .int .i64 phase, .slice a1 n1 c1] 101))).2.2.2.2.2.2.2.2.2.2.2.2.2.2.2.2 HN1.out⟩)
  clear hK K
  (try simp only [Act.put, List.getElem_toArray, List.getElem_cons_zero, List.getElem_cons_succ, List.setIfInBounds_toArray, List.set_cons_zero, List.set_cons_succ])
  refine wpAnyH_ready (rs := [7]) (by kernel_rfl) (by simp) ?_
  refine AllReadyH.cons (by simp only [List.getElem?_toArray, List.getElem?_cons_succ, List.getElem?_cons_zero]; rfl) (fun K hK => ?_) AllReadyH.nil
  (refine step_append_elem (by rfl) _ _ _ (by rfl) 101 16 184 Try.underlying51 HE.out (by decide) _ frames.length xs'.flatten (by rfl) (HRA.out.alloc (.cells #[.int .i64 2, .int .i64 0, .int .i64 0, .int .i64 0, .int .i64 0, .string ⟨#[]⟩, .int .i64 0, .slice none 0 0, .slice none 0 0, .int .i64 0, .int .i64 0, .int .i64 0, .int .i64 0, .int .i64 host, .int .i64 phase, .slice a1 n1 c1] 101)) [.int .i64 2, .int .i64 0, .int .i64 0, .int .i64 0, .int .i64 0, .string ⟨#[]⟩, .int .i64 0, .slice none 0 0, .slice none 0 0, .int .i64 0, .int .i64 0, .int .i64 0, .int .i64 0, .int .i64 host, .int .i64 phase, .slice a1 n1 c1] rfl wD.heap.size 101 (0, 0) (by rfl) (alloc_block wD _) (by simp [Value.oneCell']) (by have := HLE.out; unfold maxLen; omega) (by have := HLE.out; omega) ?_; intro a2 n2 cp2 w2 hrow2 hchg2 hold2; have cc2 := (HST.out _ _ (HWD.out.allocR (.cells #[.int .i64 2, .int .i64 0, .int .i64 0, .int .i64 0, .int .i64 0, .string ⟨#[]⟩, .int .i64 0, .slice none 0 0, .slice none 0 0, .int .i64 0, .int .i64 0, .int .i64 0, .int .i64 0, .int .i64 host, .int .i64 phase, .slice a1 n1 c1] 101)) hchg2).1; have f2 := (HST.out _ _ (HWD.out.allocR (.cells #[.int .i64 2, .int .i64 0, .int .i64 0, .int .i64 0, .int .i64 0, .string ⟨#[]⟩, .int .i64 0, .slice none 0 0, .slice none 0 0, .int .i64 0, .int .i64 0, .int .i64 0, .int .i64 0, .int .i64 host, .int .i64 phase, .slice a1 n1 c1] 101)) hchg2).2)
  refine hK.out _ _ ?_ (fun hHeld => ?_)
  · (first | exact HS0.out | exact HKS.out _ (Chg.refl _ _) | exact HKS.out _ (Chg.alloc _ _ _) | exact ⟨cc2, hchg2.cellS (HKS.out _ (Chg.alloc _ wD (.cells #[.int .i64 2, .int .i64 0, .int .i64 0, .int .i64 0, .int .i64 0, .string ⟨#[]⟩, .int .i64 0, .slice none 0 0, .slice none 0 0, .int .i64 0, .int .i64 0, .int .i64 0, .int .i64 0, .int .i64 host, .int .i64 phase, .slice a1 n1 c1] 101))).2.1 HN1.out, hchg2.cellS (HKS.out _ (Chg.alloc _ wD (.cells #[.int .i64 2, .int .i64 0, .int .i64 0, .int .i64 0, .int .i64 0, .string ⟨#[]⟩, .int .i64 0, .slice none 0 0, .slice none 0 0, .int .i64 0, .int .i64 0, .int .i64 0, .int .i64 0, .int .i64 host, .int .i64 phase, .slice a1 n1 c1] 101))).2.2.1 HN1.out, hchg2.cellS (HKS.out _ (Chg.alloc _ wD (.cells #[.int .i64 2, .int .i64 0, .int .i64 0, .int .i64 0, .int .i64 0, .string ⟨#[]⟩, .int .i64 0, .slice none 0 0, .slice none 0 0, .int .i64 0, .int .i64 0, .int .i64 0, .int .i64 0, .int .i64 host, .int .i64 phase, .slice a1 n1 c1] 101))).2.2.2.1 HN1.out, hchg2.cellS (HKS.out _ (Chg.alloc _ wD (.cells #[.int .i64 2, .int .i64 0, .int .i64 0, .int .i64 0, .int .i64 0, .string ⟨#[]⟩, .int .i64 0, .slice none 0 0, .slice none 0 0, .int .i64 0, .int .i64 0, .int .i64 0, .int .i64 0, .int .i64 host, .int .i64 phase, .slice a1 n1 c1] 101))).2.2.2.2.1 HN1.out, hchg2.cellS (HKS.out _ (Chg.alloc _ wD (.cells #[.int .i64 2, .int .i64 0, .int .i64 0, .int .i64 0, .int .i64 0, .string ⟨#[]⟩, .int .i64 0, .slice none 0 0, .slice none 0 0, .int .i64 0, .int .i64 0, .int .i64 0, .int .i64 0, .int .i64 host, .int .i64 phase, .slice a1 n1 c1] 101))).2.2.2.2.2.1 HN1.out, hchg2.cellS (HKS.out _ (Chg.alloc _ wD (.cells #[.int .i64 2, .int .i64 0, .int .i64 0, .int .i64 0, .int .i64 0, .string ⟨#[]⟩, .int .i64 0, .slice none 0 0, .slice none 0 0, .int .i64 0, .int .i64 0, .int .i64 0, .int .i64 0, .int .i64 host, .int .i64 phase, .slice a1 n1 c1] 101))).2.2.2.2.2.2.1 HN1.out, hchg2.cellS (HKS.out _ (Chg.alloc _ wD (.cells #[.int .i64 2, .int .i64 0, .int .i64 0, .int .i64 0, .int .i64 0, .string ⟨#[]⟩, .int .i64 0, .slice none 0 0, .slice none 0 0, .int .i64 0, .int .i64 0, .int .i64 0, .int .i64 0, .int .i64 host, .int .i64 phase, .slice a1 n1 c1] 101))).2.2.2.2.2.2.2.1 HN1.out, hchg2.cellS (HKS.out _ (Chg.alloc _ wD (.cells #[.int .i64 2, .int .i64 0, .int .i64 0, .int .i64 0, .int .i64 0, .string ⟨#[]⟩, .int .i64 0, .slice none 0 0, .slice none 0 0, .int .i64 0, .int .i64 0, .int .i64 0, .int .i64 0, .int .i64 host, .int .i64 phase, .slice a1 n1 c1] 101))).2.2.2.2.2.2.2.2.1 HN1.out, hchg2.cellS (HKS.out _ (Chg.alloc _ wD (.cells #[.int .i64 2, .int .i64 0, .int .i64 0, .int .i64 0, .int .i64 0, .string ⟨#[]⟩, .int .i64 0, .slice none 0 0, .slice none 0 0, .int .i64 0, .int .i64 0, .int .i64 0, .int .i64 0, .int .i64 host, .int .i64 phase, .slice a1 n1 c1] 101))).2.2.2.2.2.2.2.2.2.1 HN1.out, hchg2.cellS (HKS.out _ (Chg.alloc _ wD (.cells #[.int .i64 2, .int .i64 0, .int .i64 0, .int .i64 0, .int .i64 0, .string ⟨#[]⟩, .int .i64 0, .slice none 0 0, .slice none 0 0, .int .i64 0, .int .i64 0, .int .i64 0, .int .i64 0, .int .i64 host, .int .i64 phase, .slice a1 n1 c1] 101))).2.2.2.2.2.2.2.2.2.2.1 HN1.out, hchg2.cellS (HKS.out _ (Chg.alloc _ wD (.cells #[.int .i64 2, .int .i64 0, .int .i64 0, .int .i64 0, .int .i64 0, .string ⟨#[]⟩, .int .i64 0, .slice none 0 0, .slice none 0 0, .int .i64 0, .int .i64 0, .int .i64 0, .int .i64 0, .int .i64 host, .int .i64 phase, .slice a1 n1 c1] 101))).2.2.2.2.2.2.2.2.2.2.2.1 HN1.out, hchg2.cellS (HKS.out _ (Chg.alloc _ wD (.cells #[.int .i64 2, .int .i64 0, .int .i64 0, .int .i64 0, .int .i64 0, .string ⟨#[]⟩, .int .i64 0, .slice none 0 0, .slice none 0 0, .int .i64 0, .int .i64 0, .int .i64 0, .int .i64 0, .int .i64 host, .int .i64 phase, .slice a1 n1 c1] 101))).2.2.2.2.2.2.2.2.2.2.2.2.1 HN1.out, hchg2.cellS (HKS.out _ (Chg.alloc _ wD (.cells #[.int .i64 2, .int .i64 0, .int .i64 0, .int .i64 0, .int .i64 0, .string ⟨#[]⟩, .int .i64 0, .slice none 0 0, .slice none 0 0, .int .i64 0, .int .i64 0, .int .i64 0, .int .i64 0, .int .i64 host, .int .i64 phase, .slice a1 n1 c1] 101))).2.2.2.2.2.2.2.2.2.2.2.2.2.1 HN1.out, hchg2.cellS (HKS.out _ (Chg.alloc _ wD (.cells #[.int .i64 2, .int .i64 0, .int .i64 0, .int .i64 0, .int .i64 0, .string ⟨#[]⟩, .int .i64 0, .slice none 0 0, .slice none 0 0, .int .i64 0, .int .i64 0, .int .i64 0, .int .i64 0, .int .i64 host, .int .i64 phase, .slice a1 n1 c1] 101))).2.2.2.2.2.2.2.2.2.2.2.2.2.2.1 HN1.out, hchg2.cellS (HKS.out _ (Chg.alloc _ wD (.cells #[.int .i64 2, .int .i64 0, .int .i64 0, .int .i64 0, .int .i64 0, .string ⟨#[]⟩, .int .i64 0, .slice none 0 0, .slice none 0 0, .int .i64 0, .int .i64 0, .int .i64 0, .int .i64 0, .int .i64 host, .int .i64 phase, .slice a1 n1 c1] 101))).2.2.2.2.2.2.2.2.2.2.2.2.2.2.2.1 HN1.out, hchg2.cellS (HKS.out _ (Chg.alloc _ wD (.cells #[.int .i64 2, .int .i64 0, .int .i64 0, .int .i64 0, .int .i64 0, .string ⟨#[]⟩, .int .i64 0, .slice none 0 0, .slice none 0 0, .int .i64 0, .int .i64 0, .int .i64 0, .int .i64 0, .int .i64 host, .int .i64 phase, .slice a1 n1 c1] 101))).2.2.2.2.2.2.2.2.2.2.2.2.2.2.2.2 HN1.out⟩)
  clear hK K
  (try simp only [Act.put, List.getElem_toArray, List.getElem_cons_zero, List.getElem_cons_succ, List.setIfInBounds_toArray, List.set_cons_zero, List.set_cons_succ])
  refine wpAnyH_take (i := 8) (v := ?_) rfl (by kernel_rfl) (by kernel_rfl) (by kernel_rfl) (fun _ _ _ h => h) (Or.inl ⟨by rfl, ?_⟩) (by assumption) ?_
  rotate_left
  · (intro wq hSw; (try dsimp only at hSw); go_simp; (try with_reducible rfl))
  simp only [Act.put, List.getElem_toArray, List.getElem_cons_zero, List.getElem_cons_succ, List.setIfInBounds_toArray, List.set_cons_zero, List.set_cons_succ]
  refine wpAnyH_take (i := 9) (v := ?_) rfl (by kernel_rfl) (by kernel_rfl) (by kernel_rfl) (fun _ _ _ h => h) (Or.inl ⟨by rfl, ?_⟩) (by assumption) ?_
  rotate_left
  · (intro wq hSw; (try dsimp only at hSw); go_simp; (try with_reducible rfl))
  simp only [Act.put, List.getElem_toArray, List.getElem_cons_zero, List.getElem_cons_succ, List.setIfInBounds_toArray, List.set_cons_zero, List.set_cons_succ]
  refine wpAnyH_done (by kernel_rfl) ?_ _
  change wpList _ _ _ _ _ _
  simp only [List.drop_succ_cons, List.drop_zero]
  have P9 := HBA.out _ _ _ (pushF host phase vals) _ _ (HWD.out.allocR (.cells #[.int .i64 2, .int .i64 0, .int .i64 0, .int .i64 0, .int .i64 0, .string ⟨#[]⟩, .int .i64 0, .slice none 0 0, .slice none 0 0, .int .i64 0, .int .i64 0, .int .i64 0, .int .i64 0, .int .i64 host, .int .i64 phase, .slice a1 n1 c1] 101)) (frmR.chg HOYD.out (Chg.alloc (fun _ => False) wD (.cells #[.int .i64 2, .int .i64 0, .int .i64 0, .int .i64 0, .int .i64 0, .string ⟨#[]⟩, .int .i64 0, .slice none 0 0, .slice none 0 0, .int .i64 0, .int .i64 0, .int .i64 0, .int .i64 0, .int .i64 host, .int .i64 phase, .slice a1 n1 c1] 101)) (fun _ _ x => x)) HGG.out.1 HGG.out.2 hrow2 hchg2 hold2
  have HP9 := Lib.hid P9
  clear P9 hrow2 hchg2 hold2
  go_wp2_with fail
  go_ret
  exact ⟨rfl, HP9.out⟩
set_option maxHeartbeats 6400000 in
set_option maxRecDepth 100000 in
theorem qpush_any (w0 w : World) (bj : Nat) (jobs : List Job) (F : List Nat) (kind : Int) (vv : Value) (vals : List Val) (G : List Nat) (H : Here (jobR.row 69) w0 bj 0 jobs F) (hc : Chg (fun _ => False) w0 w) (ho : (valR.row 63).own w [vv] vals G)
    (hG : ∀ j ∈ G, w0.heap.size ≤ j) (hn : G.Nodup) (hl : jobs.length ≤ 1000) :
    Calls Try.prog 19 #[.pointer (some ⟨bj, 0, none⟩), .agg #[.int .i64 kind, vv]] w fun e w' => e = .returned (.tuple #[]) ∧ Post (jobR.row 69) w0 bj 0 (jobs ++ [⟨kind, vals⟩]) F w' := by
  obtain ⟨p, cap, xs', Fs, c0, hopen, fz, hstay, hback⟩ := H.rowAppending
  obtain ⟨pv, kv, rfl⟩ := row_slice ho
  have HST := Lib.hid hstay
  have HBA := Lib.hid hback
  have HLE := Lib.hid hl
  have HE := Lib.hid elem_job
  have HGG := Lib.hid (And.intro hG hn)
  have HC3 := Lib.hid (hc.allocR (.cells #[.int .i64 kind, .slice pv vals.length kv] 69))
  have hb3 := alloc_block w (.cells #[.int .i64 kind, .slice pv vals.length kv] 69)
  have HOY0 : jobR.own w [.int .i64 kind, .slice pv vals.length kv] ⟨kind, vals⟩ G := ⟨_, G, rfl, ho, rfl⟩
  have HOY := Lib.hid (jobR.chg HOY0 (Chg.alloc (fun _ => False) w (.cells #[.int .i64 kind, .slice pv vals.length kv] 69)) (fun _ _ x => x))
  have hsz := hc.size
  have HN1 : Hid (¬ (Value.slice p jobs.length cap).ownBlock = some w.heap.size) := Lib.hid (fun hj => by have := hopen.row.lt _ hj; omega)
  have n0 := cell_of_block (i := 0) hb3 rfl
  have n1 := cell_of_block (i := 1) hb3 rfl
  simp only [List.getElem_toArray, List.getElem_cons_zero, List.getElem_cons_succ] at n0 n1
  have HC0 := Lib.hid c0
  clear H hl hG hn hstay hback c0 hc ho HOY0 hb3 hsz
  go_enter Try.func19, Try.ntmps19
  go_upto_region 1 with fail
  generalize w.alloc (.cells #[.int .i64 kind, .slice pv vals.length kv] 69) = W3 at *
  generalize w.heap.size = bb at *
  have HS0 : Hid (W3.cell? ⟨bj, 0, none⟩ = some (.slice p jobs.length cap) ∧ W3.cell? ⟨bb, 0, none⟩ = some (.int .i64 kind) ∧ W3.cell? ⟨bb, 1, none⟩ = some (.slice pv vals.length kv)) := Lib.hid ⟨HC3.out.cell HC0.out, n0, n1⟩
  clear n0 n1
  refine wp_region_held_split 10 (fun w' => w'.cell? ⟨bj, 0, none⟩ = some (.slice p jobs.length cap) ∧ w'.cell? ⟨bb, 0, none⟩ = some (.int .i64 kind) ∧ w'.cell? ⟨bb, 1, none⟩ = some (.slice pv vals.length kv)) (by kernel_rfl) (by kernel_rfl) ?_ (fun hHeld => ?_)
  · (first | exact HS0.out | exact HKS.out _ (Chg.refl _ _) | exact HKS.out _ (Chg.alloc _ _ _) | exact ⟨cc2, hchg2.cellS (HKS.out _ (Chg.alloc _ wD (.cells #[.int .i64 kind, .slice pv vals.length kv] 69))).2.1 HN1.out, hchg2.cellS (HKS.out _ (Chg.alloc _ wD (.cells #[.int .i64 kind, .slice pv vals.length kv] 69))).2.2 HN1.out⟩)
  simp only [List.take_succ_cons, List.take_zero]
  have HKS : Hid (∀ W, Chg (fun _ => False) W3.drew W → W.cell? ⟨bj, 0, none⟩ = some (.slice p jobs.length cap) ∧ W.cell? ⟨bb, 0, none⟩ = some (.int .i64 kind) ∧ W.cell? ⟨bb, 1, none⟩ = some (.slice pv vals.length kv)) := Lib.hid (fun W hc => ⟨hc.cell HS0.out.1, hc.cell HS0.out.2.1, hc.cell HS0.out.2.2⟩)
  have HRA : Hid (RowAt W3.drew 69 2 (.slice p jobs.length cap) jobs.length xs'.flatten) := Lib.hid ((hopen.row.chg HC3.out (fun _ _ x => x)).drew)
  have HWD : Hid (Chg (fun _ => False) w0 W3.drew) := Lib.hid HC3.out.drewR
  have HOYD := Lib.hid (jobR.chg HOY.out (Chg.refl (fun _ => False) W3).drewR (fun _ _ x => x))
  clear hopen HOY
  generalize W3.drew = wD at *
  refine wpAnyH_take (i := 0) (v := ?_) rfl (by kernel_rfl) (by kernel_rfl) (by kernel_rfl) (fun _ _ _ h => h) (Or.inl ⟨by rfl, ?_⟩) (by assumption) ?_
  rotate_left
  · (intro wq hSw; (try dsimp only at hSw); go_simp; (try with_reducible rfl))
  simp only [Act.put, List.getElem_toArray, List.getElem_cons_zero, List.getElem_cons_succ, List.setIfInBounds_toArray, List.set_cons_zero, List.set_cons_succ]
  refine wpAnyH_take (i := 1) (v := ?_) rfl (by kernel_rfl) (by kernel_rfl) (by kernel_rfl) (fun _ _ _ h => h) (Or.inl ⟨by rfl, ?_⟩) (by assumption) ?_
  rotate_left
  · (intro wq hSw; (try dsimp only at hSw); go_simp; (try with_reducible rfl))
  simp only [Act.put, List.getElem_toArray, List.getElem_cons_zero, List.getElem_cons_succ, List.setIfInBounds_toArray, List.set_cons_zero, List.set_cons_succ]
  refine wpAnyH_take (i := 2) (v := ?_) rfl (by kernel_rfl) (by kernel_rfl) (by kernel_rfl) (fun _ _ _ h => h) (Or.inl ⟨by rfl, ?_⟩) (by assumption) ?_
  rotate_left
  · (intro wq hSw; (try dsimp only at hSw); go_simp; (try with_reducible rfl))
  simp only [Act.put, List.getElem_toArray, List.getElem_cons_zero, List.getElem_cons_succ, List.setIfInBounds_toArray, List.set_cons_zero, List.set_cons_succ]
  refine wpAnyH_take (i := 3) (v := ?_) rfl (by kernel_rfl) (by kernel_rfl) (by kernel_rfl) (fun _ _ _ h => h) (Or.inl ⟨by rfl, ?_⟩) (by assumption) ?_
  rotate_left
  · (intro wq hSw; (try dsimp only at hSw); go_simp; (try with_reducible rfl))
  simp only [Act.put, List.getElem_toArray, List.getElem_cons_zero, List.getElem_cons_succ, List.setIfInBounds_toArray, List.set_cons_zero, List.set_cons_succ]
  refine wpAnyH_take (i := 4) (v := ?_) rfl (by kernel_rfl) (by kernel_rfl) (by kernel_rfl) (fun _ _ _ h => h) (Or.inl ⟨by rfl, ?_⟩) (by assumption) ?_
  rotate_left
  · (intro wq hSw; (try dsimp only at hSw); go_simp; (try with_reducible rfl))
  simp only [Act.put, List.getElem_toArray, List.getElem_cons_zero, List.getElem_cons_succ, List.setIfInBounds_toArray, List.set_cons_zero, List.set_cons_succ]
  refine wpAnyH_take (i := 5) (v := ?_) rfl (by kernel_rfl) (by kernel_rfl) (by kernel_rfl) (fun _ _ _ h => h) (Or.inl ⟨by rfl, ?_⟩) (by assumption) ?_
  rotate_left
  · (intro wq hSw; (try dsimp only at hSw); go_simp; (try with_reducible rfl))
  simp only [Act.put, List.getElem_toArray, List.getElem_cons_zero, List.getElem_cons_succ, List.setIfInBounds_toArray, List.set_cons_zero, List.set_cons_succ]
  refine wpAnyH_ready (rs := [6]) (by kernel_rfl) (by simp) ?_
  refine AllReadyH.cons (by simp only [List.getElem?_toArray, List.getElem?_cons_succ, List.getElem?_cons_zero]; rfl) (fun K hK => ?_) AllReadyH.nil
  go_simp
  refine hK.out _ _ ?_ (fun hHeld => ?_)
  · (first | exact HS0.out | exact HKS.out _ (Chg.refl _ _) | exact HKS.out _ (Chg.alloc _ _ _) | exact ⟨cc2, hchg2.cellS (HKS.out _ (Chg.alloc _ wD (.cells #[.int .i64 kind, .slice pv vals.length kv] 69))).2.1 HN1.out, hchg2.cellS (HKS.out _ (Chg.alloc _ wD (.cells #[.int .i64 kind, .slice pv vals.length kv] 69))).2.2 HN1.out⟩)
  clear hK K
  (try simp only [Act.put, List.getElem_toArray, List.getElem_cons_zero, List.getElem_cons_succ, List.setIfInBounds_toArray, List.set_cons_zero, List.set_cons_succ])
  refine wpAnyH_ready (rs := [7]) (by kernel_rfl) (by simp) ?_
  refine AllReadyH.cons (by simp only [List.getElem?_toArray, List.getElem?_cons_succ, List.getElem?_cons_zero]; rfl) (fun K hK => ?_) AllReadyH.nil
  (refine step_append_elem (by rfl) _ _ _ (by rfl) 69 2 32 Try.underlying54 HE.out (by decide) _ jobs.length xs'.flatten (by rfl) (HRA.out.alloc (.cells #[.int .i64 kind, .slice pv vals.length kv] 69)) [.int .i64 kind, .slice pv vals.length kv] rfl wD.heap.size 69 (0, 0) (by rfl) (alloc_block wD _) (by simp [Value.oneCell']) (by have := HLE.out; unfold maxLen; omega) (by have := HLE.out; omega) ?_; intro a2 n2 cp2 w2 hrow2 hchg2 hold2; have cc2 := (HST.out _ _ (HWD.out.allocR (.cells #[.int .i64 kind, .slice pv vals.length kv] 69)) hchg2).1; have f2 := (HST.out _ _ (HWD.out.allocR (.cells #[.int .i64 kind, .slice pv vals.length kv] 69)) hchg2).2)
  refine hK.out _ _ ?_ (fun hHeld => ?_)
  · (first | exact HS0.out | exact HKS.out _ (Chg.refl _ _) | exact HKS.out _ (Chg.alloc _ _ _) | exact ⟨cc2, hchg2.cellS (HKS.out _ (Chg.alloc _ wD (.cells #[.int .i64 kind, .slice pv vals.length kv] 69))).2.1 HN1.out, hchg2.cellS (HKS.out _ (Chg.alloc _ wD (.cells #[.int .i64 kind, .slice pv vals.length kv] 69))).2.2 HN1.out⟩)
  clear hK K
  (try simp only [Act.put, List.getElem_toArray, List.getElem_cons_zero, List.getElem_cons_succ, List.setIfInBounds_toArray, List.set_cons_zero, List.set_cons_succ])
  refine wpAnyH_take (i := 8) (v := ?_) rfl (by kernel_rfl) (by kernel_rfl) (by kernel_rfl) (fun _ _ _ h => h) (Or.inl ⟨by rfl, ?_⟩) (by assumption) ?_
  rotate_left
  · (intro wq hSw; (try dsimp only at hSw); go_simp; (try with_reducible rfl))
  simp only [Act.put, List.getElem_toArray, List.getElem_cons_zero, List.getElem_cons_succ, List.setIfInBounds_toArray, List.set_cons_zero, List.set_cons_succ]
  refine wpAnyH_take (i := 9) (v := ?_) rfl (by kernel_rfl) (by kernel_rfl) (by kernel_rfl) (fun _ _ _ h => h) (Or.inl ⟨by rfl, ?_⟩) (by assumption) ?_
  rotate_left
  · (intro wq hSw; (try dsimp only at hSw); go_simp; (try with_reducible rfl))
  simp only [Act.put, List.getElem_toArray, List.getElem_cons_zero, List.getElem_cons_succ, List.setIfInBounds_toArray, List.set_cons_zero, List.set_cons_succ]
  refine wpAnyH_done (by kernel_rfl) ?_ _
  change wpList _ _ _ _ _ _
  simp only [List.drop_succ_cons, List.drop_zero]
  have P9 := HBA.out _ _ _ ⟨kind, vals⟩ _ _ (HWD.out.allocR (.cells #[.int .i64 kind, .slice pv vals.length kv] 69)) (jobR.chg HOYD.out (Chg.alloc (fun _ => False) wD (.cells #[.int .i64 kind, .slice pv vals.length kv] 69)) (fun _ _ x => x)) HGG.out.1 HGG.out.2 hrow2 hchg2 hold2
  have HP9 := Lib.hid P9
  clear P9 hrow2 hchg2 hold2
  go_wp2_with fail
  go_end0
  exact ⟨rfl, HP9.out⟩
end Go.Proofs.Ythiiehanlconeaa
