/-
  Push that is refused changes nothing; messages as arguments.
  What stays true of a history, plainly: its entries and pages are in order.
  A new entry, plainly; entries kept in a slice of one's own.
-/
import Derived.Test.YtiecgbmeobpomaaDoorPHistoryNewl
import Derived.Test.YtiecgbmeobpomaaDoorPHistoryNewm
namespace Go.Proofs.YtiecgbmeobpomaaDoor
open Go.ChangeShapes Go.WideShapes Go.ChangeAt Go.RowKit
set_option linter.unusedVariables false
set_option linter.unusedSimpArgs false

set_option maxHeartbeats 6400000 in
set_option maxRecDepth 100000 in
theorem push_no2 {D : Nat → Prop} (w : World) (b : Nat) (hU : Lib.Utf8Tabs 0 1 w) (url : ByteArray) (m : Msg) (sn sp : Option Addr) (nn cn np cp : Nat) (hm : MsgAt D w (.slice sn nn cn) (.slice sp np cp) m) (hfit : MsgFit m) (ha : allowedB m = false) :
    Calls Tryd.prog 21 #[.pointer (some ⟨b, 0, none⟩), .string url, .agg #[.slice sn nn cn, .slice sp np cp]] w fun z w' => z = .returned (.tuple #[.agg #[.int .i64 0, .int .i64 0, .string ⟨#[]⟩, .string ⟨#[]⟩, .slice none 0 0, .slice none 0 0, .int .i64 0, .int .i64 0, .int .i64 0, .bool false, .bool false, .slice none 0 0], .int .i64 1]) ∧ Chg (fun _ => False) w w' := by
  have hb6 := alloc_block (w.alloc (.cells #[.slice sn nn cn, .slice sp np cp] 32)) (.cells #[.int .i64 0, .int .i64 0, .string ⟨#[]⟩, .string ⟨#[]⟩, .slice none 0 0, .slice none 0 0, .int .i64 0, .int .i64 0, .int .i64 0, .bool false, .bool false, .slice none 0 0] 40)
  rw [World.size_alloc] at hb6
  have HB6 := Lib.hid hb6
  have hb5 := alloc_old (.cells #[.int .i64 0, .int .i64 0, .string ⟨#[]⟩, .string ⟨#[]⟩, .slice none 0 0, .slice none 0 0, .int .i64 0, .int .i64 0, .int .i64 0, .bool false, .bool false, .slice none 0 0] 40) (alloc_block w (.cells #[.slice sn nn cn, .slice sp np cp] 32))
  have HC1 := Lib.hid ((Chg.alloc (fun _ => False) w (.cells #[.slice sn nn cn, .slice sp np cp] 32)).allocR (.cells #[.int .i64 0, .int .i64 0, .string ⟨#[]⟩, .string ⟨#[]⟩, .slice none 0 0, .slice none 0 0, .int .i64 0, .int .i64 0, .int .i64 0, .bool false, .bool false, .slice none 0 0] 40))
  have y0 := cell_of_block (i := 0) hb5 rfl
  have y1 := cell_of_block (i := 1) hb5 rfl
  simp only [List.getElem_toArray, List.getElem_cons_zero, List.getElem_cons_succ] at y0 y1
  have HAL := Lib.hid (allowed_any _ sn sp nn cn np cp _ m (hm.chg HC1.out (fun _ _ x => x.elim) (fun _ _ x => x)) hfit (utf8_stay hU HC1.out))
  rw [ha] at HAL
  clear hb6 hb5 hm hfit ha hU
  go_enter Tryd.func21, Tryd.ntmps21
  go_upto_region 1 with fail
  generalize (w.alloc (.cells #[.slice sn nn cn, .slice sp np cp] 32)).alloc (.cells #[.int .i64 0, .int .i64 0, .string ⟨#[]⟩, .string ⟨#[]⟩, .slice none 0 0, .slice none 0 0, .int .i64 0, .int .i64 0, .int .i64 0, .bool false, .bool false, .slice none 0 0] 40) = w1 at *
  generalize hb5e : w.heap.size = b5 at HB6 y0 y1 ⊢
  have HB5E := Lib.hid hb5e
  clear hb5e
  generalize hb6e : b5 + 1 = b6 at HB6 ⊢
  have HB6E := Lib.hid hb6e
  clear hb6e
  go_upto_region 2 with (go_at_call 42; refine HAL.out.mono ?_; rintro _ w3 ⟨rfl, hc3⟩)
  have hb6e := hc3.keep HB6.out (fun x => x)
  obtain ⟨z0, q0, z1, q1, z2, q2, z3, q3, z4, q4, z5, q5, z6, q6, z7, q7, z8, q8, z9, q9, z10, q10, z11, q11, hbf, hcs⟩ := store12 hb6e (.int .i64 0) (.int .i64 0) (.string ⟨#[]⟩) (.string ⟨#[]⟩) (.slice none 0 0) (.slice none 0 0) (.int .i64 0) (.int .i64 0) (.int .i64 0) (.bool false) (.bool false) (.slice none 0 0)
  have HCS := Lib.hid hcs
  have HC3 := Lib.hid hc3
  clear hcs hb6e hc3 y0 y1
  go_wp2_with fail
  generalize ((((((((((((w3.setCell ⟨b6, 0, none⟩ (.int .i64 0)).setCell ⟨b6, 1, none⟩ (.int .i64 0)).setCell ⟨b6, 2, none⟩ (.string ⟨#[]⟩)).setCell ⟨b6, 3, none⟩ (.string ⟨#[]⟩)).setCell ⟨b6, 4, none⟩ (.slice none 0 0)).setCell ⟨b6, 5, none⟩ (.slice none 0 0)).setCell ⟨b6, 6, none⟩ (.int .i64 0)).setCell ⟨b6, 7, none⟩ (.int .i64 0)).setCell ⟨b6, 8, none⟩ (.int .i64 0)).setCell ⟨b6, 9, none⟩ (.bool false)).setCell ⟨b6, 10, none⟩ (.bool false)).setCell ⟨b6, 11, none⟩ (.slice none 0 0)) = wz at *
  refine bodyPost_ret (results_cell_row_tmp48 rfl _ _ b6 #[.int .i64 0, .int .i64 0, .string ⟨#[]⟩, .string ⟨#[]⟩, .slice none 0 0, .slice none 0 0, .int .i64 0, .int .i64 0, .int .i64 0, .bool false, .bool false, .slice none 0 0] (by rfl) (run_loadVar_row _ b6 40 40 _ _ _ hbf Tryd.underlying40 rfl (by kernel_rfl))) rfl ?_
  exact ⟨rfl, (HC1.out.trans' HC3.out).trans HCS.out (fun k _ x => x.elim) (fun k hk x => by
    have := HB5E.out
    have := HB6E.out
    have : k = b6 := x
    omega)⟩
theorem store2 {w : World} {g T : Nat} {u0 u1 : Value} (b0 : w.heap[g]? = some (.cells #[u0, u1] T (0, 0))) (v0 v1 : Value) :
    w.cell? ⟨g, 0, none⟩ = some u0 ∧ w.frozen? ⟨g, 0, none⟩ = false ∧ (w.setCell ⟨g, 0, none⟩ v0).cell? ⟨g, 1, none⟩ = some u1 ∧ (w.setCell ⟨g, 0, none⟩ v0).frozen? ⟨g, 1, none⟩ = false ∧
      ((w.setCell ⟨g, 0, none⟩ v0).setCell ⟨g, 1, none⟩ v1).heap[g]? = some (.cells #[v0, v1] T (0, 0)) ∧ Chg (fun k => k = g) w ((w.setCell ⟨g, 0, none⟩ v0).setCell ⟨g, 1, none⟩ v1) := by
  have b1 : (w.setCell ⟨g, 0, none⟩ v0).heap[g]? = some (.cells #[v0, u1] T (0, 0)) := setCell_block (i := 0) v0 b0
  have b2 : ((w.setCell ⟨g, 0, none⟩ v0).setCell ⟨g, 1, none⟩ v1).heap[g]? = some (.cells #[v0, v1] T (0, 0)) := setCell_block (i := 1) v1 b1
  exact ⟨cell_of_block b0 rfl, frozen_of_block b0, cell_of_block b1 rfl, frozen_of_block b1, b2, (show Chg (fun k => k = g) w (w.setCell ⟨g, 0, none⟩ v0) from Chg.setCell w ⟨g, 0, none⟩ v0).trans' (show Chg (fun k => k = g) (w.setCell ⟨g, 0, none⟩ v0) _ from Chg.setCell _ ⟨g, 1, none⟩ v1)⟩
/-- A message as it came in. -/
structure MsgR where
  m : Msg
  sn : Option Addr
  sp : Option Addr
  nn : Nat
  cn : Nat
  np : Nat
  cp : Nat
def MsgR.val (r : MsgR) : Value := .agg #[.slice r.sn r.nn r.cn, .slice r.sp r.np r.cp]
structure MsgIn (w : World) (r : MsgR) : Prop where
  at_ : MsgAt (fun k => w.heap.size ≤ k) w (.slice r.sn r.nn r.cn) (.slice r.sp r.np r.cp) r.m
  raw : MsgRaw r.m
  lite : MsgLite r.m
set_option maxRecDepth 100000 in
theorem open_msgvS {H : Type} {enc : TypeId × Value → H} {w : World} {base : Nat} {v : Value} {d : DataW H} {ps : List MemPlace} (hv : Value.okWide Tryd.prog w .any base 32 v) (h : DataW.Trod enc Tryd.prog w 0 (fun _ => true) true 32 v d ps) (hw : ∀ n ∈ d.weights Tryd.prog 32, n ≤ reachBytes) :
    ∃ r : MsgR, v = r.val ∧ MsgIn w r := by
  simp only [Value.okWide, Tryd.underlying32] at hv
  obtain ⟨cs, rfl, hsz, _⟩ := hv
  obtain ⟨n, hf⟩ := h
  obtain ⟨sn, sp, nn, cn, np, cp, m, e0, e1, hm, hr, hl⟩ := open_msgS (x := cs.toList) (y := (d, ps)) hf hw
  have h2 : Tryd.prog.cellsOf 32 = 2 := by kernel_rfl
  rw [h2] at hsz
  refine ⟨⟨m, sn, sp, nn, cn, np, cp⟩, ?_, hm, hr, hl⟩
  unfold MsgR.val
  congr 1
  have hl2 : cs.toList.length = 2 := by simpa using hsz
  match hc : cs.toList, hl2 with
  | [x, y], _ =>
    rw [hc] at e0 e1
    simp only [List.getElem?_cons_zero, List.getElem?_cons_succ, Option.some.injEq] at e0 e1
    have : cs = [x, y].toArray := by rw [← hc]
    rw [this, e0, e1]
theorem OpOk.still {w w' : World} {r : OpR} (h : OpOk w r) (hc : Chg (fun _ => False) w w') : OpOk w' r :=
  ⟨h.kind, h.url, h.delta, h.msg.chg hc (fun _ _ x => x.elim) (fun k _ x => Nat.le_trans hc.size x), h.raw⟩
theorem MsgIn.still {w w' : World} {r : MsgR} (h : MsgIn w r) (hc : Chg (fun _ => False) w w') : MsgIn w' r :=
  ⟨h.at_.chg hc (fun _ _ x => x.elim) (fun k _ x => Nat.le_trans hc.size x), h.raw, h.lite⟩
theorem curE_push (h : Hist) (url : ByteArray) (m : Msg) : curE (pushM h url m) = { pushE h url m with id := h.next } := curE_add h (pushE h url m)
theorem pushV_entry (h : Hist) (url : ByteArray) (m : Msg) : (pushV h url m).entry = { pushE h url m with id := h.next } := curE_add h (pushE h url m)
theorem curE_set (h : Hist) (e : Ent) (ok : h.at_ < h.list.length) : curE { h with list := h.list.set h.at_ e } = e := by
  unfold curE
  rw [List.getD_eq_getElem?_getD, List.getElem?_set_self ok]
  rfl
end Go.Proofs.YtiecgbmeobpomaaDoor
namespace Go.Proofs.YtiecgbmeobpomaaDoor
set_option linter.unusedVariables false
set_option linter.unusedSimpArgs false

structure VaOk (h : Hist) : Prop where
  id : ∀ e ∈ h.list, 1 ≤ e.id ∧ e.id < h.next
  asc : h.list.Pairwise fun a b => a.id < b.id
  pages : h.list.Pairwise fun a b => a.page ≤ b.page
  shown : ∀ p ∈ h.sleeping, ∃ e ∈ h.list, e.page = p
  allow : ∀ e ∈ h.list, allowedB e.msg = true
theorem allowed0 : allowedB Msg0 = true := by
  unfold allowedB
  rw [if_neg (by decide), if_pos (by decide)]
theorem VaOk.new (url : ByteArray) : VaOk (newH url) := by
  refine ⟨fun e he => ?_, by simp [newH], by simp [newH], fun p hp => (by cases hp), fun e he => ?_⟩
  · simp only [newH, List.mem_singleton] at he
    subst he
    exact ⟨by show (1 : Int) ≤ 1; omega, by show (1 : Int) < 2; omega⟩
  · simp only [newH, List.mem_singleton] at he
    subst he
    exact allowed0
theorem addL_sub (h : Hist) (e : Ent) : (addL h e).Sublist (h.list.take (h.at_ + 1) ++ [{ e with id := h.next }]) := by
  unfold addL
  simp only
  split
  · exact List.drop_sublist ..
  · exact List.Sublist.refl _
theorem take_page {n : Nat} {h : Hist} (H : HOk n h) (V : VaOk h) : ∀ x ∈ h.list.take (h.at_ + 1), x.page ≤ (curE h).page := by
  intro x hx
  obtain ⟨i, hi, rfl⟩ := List.getElem_of_mem hx
  rw [List.length_take] at hi
  rw [List.getElem_take]
  have hc := curE_get h H.ok
  rw [List.getElem?_eq_getElem H.ok] at hc
  simp only [Option.some.injEq] at hc
  rw [← hc]
  by_cases he : i = h.at_
  · subst he; exact Int.le_refl _
  · exact List.pairwise_iff_getElem.1 V.pages i h.at_ (by omega) H.ok (by omega)
/-- An entry behind the current one. -/
theorem VaOk.add {n : Nat} {h : Hist} (H : HOk n h) (V : VaOk h) {e : Ent} (he : (curE h).page ≤ e.page) (ha : allowedB e.msg = true) :
    (∀ x ∈ addL h e, 1 ≤ x.id ∧ x.id < h.next + 1) ∧ (addL h e).Pairwise (fun a b => a.id < b.id) ∧ (addL h e).Pairwise (fun a b => a.page ≤ b.page) ∧ ∀ x ∈ addL h e, allowedB x.msg = true := by
  have hnx : 1 ≤ h.next := by have := V.id _ (curE_mem h H.ok); omega
  have hs := addL_sub h e
  have hm : ∀ x ∈ addL h e, x ∈ h.list.take (h.at_ + 1) ∨ x = { e with id := h.next } := fun x hx => by
    rcases List.mem_append.1 (hs.subset hx) with y | y
    · exact .inl y
    · exact .inr (by simpa using y)
  refine ⟨fun x hx => ?_, List.Pairwise.sublist hs ?_, List.Pairwise.sublist hs ?_, fun x hx => ?_⟩
  · rcases hm x hx with y | y
    · have := V.id x (List.mem_of_mem_take y); omega
    · subst y; simp only; omega
  · rw [List.pairwise_append]
    refine ⟨V.asc.sublist (List.take_sublist ..), by simp, fun a ha b hb => ?_⟩
    rw [List.mem_singleton] at hb
    subst hb
    exact (V.id a (List.mem_of_mem_take ha)).2
  · rw [List.pairwise_append]
    refine ⟨V.pages.sublist (List.take_sublist ..), by simp, fun a ha b hb => ?_⟩
    rw [List.mem_singleton] at hb
    subst hb
    exact Int.le_trans (take_page H V a ha) he
  · rcases hm x hx with y | y
    · exact V.allow x (List.mem_of_mem_take y)
    · subst y; exact ha
theorem VaOk.clean {h : Hist} (h1 : ∀ e ∈ h.list, 1 ≤ e.id ∧ e.id < h.next) (h2 : h.list.Pairwise fun a b => a.id < b.id) (h3 : h.list.Pairwise fun a b => a.page ≤ b.page) (h4 : ∀ e ∈ h.list, allowedB e.msg = true) : VaOk (cleanM h) :=
  ⟨h1, h2, h3, fun p hp => by
    have := (List.mem_filter.1 hp).2
    unfold shownP at this
    rw [List.any_eq_true] at this
    obtain ⟨e, he, hq⟩ := this
    exact ⟨e, he, by simpa using hq⟩, h4⟩
theorem VaOk.sleep {h : Hist} (V : VaOk h) {p : Int} (hp : ∃ e ∈ h.list, e.page = p) : VaOk (sleepM h p) :=
  ⟨V.id, V.asc, V.pages, fun q hq => by
    rcases mem_snoc.1 hq with y | y
    · exact V.shown q y
    · subst y; exact hp, V.allow⟩
theorem VaOk.set {n : Nat} {h : Hist} (H : HOk n h) (V : VaOk h) {e : Ent} (hi : e.id = (curE h).id) (hp : e.page = (curE h).page) (ha : allowedB e.msg = true) : VaOk { h with list := h.list.set h.at_ e } := by
  have hc := curE_get h H.ok
  rw [List.getElem?_eq_getElem H.ok] at hc
  simp only [Option.some.injEq] at hc
  have hset : ∀ (f : Ent → Int), f e = f (curE h) → (h.list.set h.at_ e).map f = h.list.map f := by
    intro f hf
    rw [List.map_set, hf, ← hc]
    refine List.ext_getElem? fun i => ?_
    by_cases hi : h.at_ = i
    · subst hi
      rw [List.getElem?_set_self (by rw [List.length_map]; exact H.ok), List.getElem?_map, List.getElem?_eq_getElem H.ok]
      rfl
    · rw [List.getElem?_set_ne hi]
  have pw : ∀ (f : Ent → Int) (R : Int → Int → Prop), f e = f (curE h) → (h.list.Pairwise fun a b => R (f a) (f b)) → (h.list.set h.at_ e).Pairwise fun a b => R (f a) (f b) := by
    intro f R hf h1
    rw [← List.pairwise_map (f := f) (R := R)] at h1 ⊢
    rw [hset f hf]
    exact h1
  refine ⟨fun x hx => ?_, pw Ent.id (· < ·) hi V.asc, pw Ent.page (· ≤ ·) hp V.pages, fun p hq => ?_, fun x hx => ?_⟩
  · rcases List.mem_or_eq_of_mem_set hx with y | y
    · exact V.id x y
    · subst y; rw [hi]; exact V.id _ (curE_mem h H.ok)
  · obtain ⟨x, hx, he⟩ := V.shown p hq
    have : p ∈ (h.list.set h.at_ e).map Ent.page := by
      rw [hset Ent.page hp]
      exact List.mem_map.2 ⟨x, hx, he⟩
    obtain ⟨y, hy, hy2⟩ := List.mem_map.1 this
    exact ⟨y, hy, hy2⟩
  · rcases List.mem_or_eq_of_mem_set hx with y | y
    · exact V.allow x y
    · subst y; exact ha
theorem VaOk.step {n : Nat} {h : Hist} (H : HOk n h) (P : PgOk h) (V : VaOk h) (o : COp) : VaOk (doH allowedB h o) := by
  have hc := V.allow _ (curE_mem h H.ok)
  have hpc := P.old _ (curE_mem h H.ok)
  unfold doH
  split
  · have hq := VaOk.add H V (e := navE h o.url) (by show (curE h).page ≤ h.nextPage; omega) allowed0
    have hcl : VaOk (cleanM (navH h o.url)) := VaOk.clean hq.1 hq.2.1 hq.2.2.1 hq.2.2.2
    unfold navM
    split
    · rename_i hs
      refine hcl.sleep ?_
      unfold navS at hs
      rw [Bool.and_eq_true] at hs
      have := hs.2
      unfold shownP at this
      rw [List.any_eq_true] at this
      obtain ⟨e, he, hq⟩ := this
      exact ⟨e, he, by simpa using hq⟩
    · exact hcl
  · split
    · split
      · rename_i ha
        have hq := VaOk.add H V (e := pushE h o.url o.msg) (Int.le_refl _) ha
        exact VaOk.clean hq.1 hq.2.1 hq.2.2.1 hq.2.2.2
      · exact V
    · split
      · split
        · rename_i ha
          exact VaOk.set H V (e := pushE h o.url o.msg) rfl rfl ha
        · exact V
      · split
        · split
          · rename_i hg
            have hcg : (curE h) ∈ h.list := curE_mem h H.ok
            unfold goM
            split
            · exact ⟨V.id, V.asc, V.pages, V.shown, V.allow⟩
            · exact VaOk.sleep (h := { goH h o.delta with sleeping := h.sleeping.erase (curE (goH h o.delta)).page }) ⟨V.id, V.asc, V.pages, fun p hp => V.shown p (List.mem_of_mem_erase hp), V.allow⟩ ⟨_, hcg, rfl⟩
          · exact V
        · split
          · exact VaOk.set H V (e := { curE h with x := o.delta, y := o.url.size }) rfl rfl hc
          · split
            · exact VaOk.set H V (e := { curE h with title := o.url }) rfl rfl hc
            · split
              · exact ⟨V.id, V.asc, V.pages, fun p hp => V.shown p (List.mem_of_mem_erase hp), V.allow⟩
              · exact V
theorem histK_va {url : ByteArray} {l : List OpR} (hl : l.length ≤ 60) (hf : ∀ r ∈ l, MsgFit r.o.msg) (k : Nat) : VaOk (histK url l k) := by
  induction k with
  | zero =>
    show VaOk (histK url l 0)
    unfold histK doAll
    simp only [List.take_zero, List.map_nil, List.foldl_nil]
    exact VaOk.new url
  | succ k ih =>
    by_cases hk : k < l.length
    · rw [histK_succ hk]
      obtain ⟨h1, h2⟩ := histK_ok (url := url) hl hf k
      exact VaOk.step h1 h2 ih _
    · have : histK url l (k + 1) = histK url l k := by
        unfold histK
        rw [List.take_of_length_le (by omega), List.take_of_length_le (by omega)]
      rw [this]
      exact ih
/-- The entries ahead of a new one. -/
theorem addL_get {n : Nat} {h : Hist} (H : HOk n h) (e : Ent) : (addL h e).length = h.at_ + 2 - (h.at_ + 2 - 50) ∧ ∀ i, i + 1 < (addL h e).length → (addL h e)[i]? = h.list[i + (h.at_ + 2 - 50)]? ∧ i + (h.at_ + 2 - 50) < h.at_ + 1 := by
  have hok := H.ok
  have hln := H.len
  have hl : (h.list.take (h.at_ + 1) ++ [{ e with id := h.next }]).length = h.at_ + 2 := by rw [List.length_append, List.length_take]; simp; omega
  by_cases hc : 50 < h.at_ + 2
  · have he : addL h e = (h.list.take (h.at_ + 1) ++ [{ e with id := h.next }]).drop 1 := by
      unfold addL
      simp only
      rw [if_pos (by rw [hl]; exact hc)]
    have h1 : h.at_ + 2 - 50 = 1 := by omega
    rw [he, h1, List.length_drop, hl]
    refine ⟨by omega, fun i hi => ⟨?_, by omega⟩⟩
    rw [List.getElem?_drop, List.getElem?_append_left (by rw [List.length_take]; omega), List.getElem?_take, if_pos (by omega), Nat.add_comm]
  · have he : addL h e = h.list.take (h.at_ + 1) ++ [{ e with id := h.next }] := by
      unfold addL
      simp only
      rw [if_neg (by rw [hl]; exact hc)]
    have h1 : h.at_ + 2 - 50 = 0 := by omega
    rw [he, h1, hl]
    refine ⟨by omega, fun i hi => ⟨?_, by omega⟩⟩
    rw [List.getElem?_append_left (by rw [List.length_take]; omega), List.getElem?_take, if_pos (by omega), Nat.add_zero]
end Go.Proofs.YtiecgbmeobpomaaDoor
namespace Go.Proofs.YtiecgbmeobpomaaDoor
open Go.RowKit
set_option linter.unusedVariables false
set_option linter.unusedSimpArgs false

def EntR.one (r : EntR) : Prop := r.vn.oneCell' = true ∧ r.vp.oneCell' = true
theorem nodes8_ones {w0 : Past} {w : World} {b : Nat} {h : Hist} {vl vs : Value} {rs : List EntR} (H : HiAt w0 w b h vl vs rs) {k : Nat} : Ones ((rs.flatMap EntR.cells).take k) := fun u hu => by
  obtain ⟨r, hr, hu⟩ := List.mem_flatMap.1 (List.mem_of_mem_take hu)
  obtain ⟨i, hi, rfl⟩ := List.getElem_of_mem hr
  have he := H.each i hi (by rw [← H.len]; exact hi)
  obtain ⟨⟨_, _, _, hvn⟩, _, _, _, hvp⟩ := he.msg.vals
  unfold EntR.cells at hu
  simp only [List.mem_cons, List.not_mem_nil, or_false] at hu
  rcases hu with rfl | rfl | rfl | rfl | rfl | rfl | rfl | rfl
  · rfl
  · rfl
  · rfl
  · rfl
  · rw [hvn]; rfl
  · rw [hvp]; rfl
  · rfl
  · rfl
/-- A history's first entries, copied. -/
theorem HiAt.copied {w0 : Past} {w w1 : World} {b : Nat} {h : Hist} {vl vs : Value} {rs : List EntR} (H : HiAt w0 w b h vl vs rs) (hc : Chg (fun _ => False) w w1) {m : Nat} (hm : m ≤ h.list.length) {a : Option Addr} {c : Nat} (hr : RowAt w1 34 8 (.slice a m c) m ((rs.flatMap EntR.cells).take (m * 8))) (hn : ∀ k, (Value.slice a m c).ownBlock = some k → w.heap.size ≤ k) :
    HvAt (fun k => Mut b vl vs k ∨ w1.heap.size ≤ k) w1 a none c 0 ⟨h.list.take m, 0, 0, 0, []⟩ := by
  have hlen : (rs.take m).length = m := by rw [List.length_take, H.len]; omega
  have hl2 : (h.list.take m).length = m := by rw [List.length_take]; omega
  refine ⟨⟨rs.take m, by rw [hlen]; exact hl2.symm, fun i p q => ?_, ?_⟩, SeenN.none _ _ _⟩
  · have hi : i < m := by rw [hlen] at p; exact p
    simp only [List.getElem_take]
    have := H.each i (by rw [H.len]; omega) (by omega)
    refine (this.chg hc (fun _ _ x => x.elim) (D' := fun k => Mut b vl vs k) (fun k _ x => .inl x)).chg (Chg.refl (fun _ => False) w1) (fun _ _ x => x.elim) (fun k hk x => x.elim id (fun y => by omega))
  · show SeenN _ w1 8 (.slice a (h.list.take m).length c) _ _
    rw [hl2, hlen, ← flatE_take]
    exact SeenN.ofRow hr (fun k hk x => by
      have h1 := hn k hk
      rcases x with y | y
      · have := H.mutLt k y; omega
      · have := hr.lt k hk; omega)
theorem msgFit0 : MsgFit Msg0 := ⟨fun x hx => (by cases hx), fun x hx => (by cases hx), ⟨by decide⟩, ⟨by decide⟩⟩
structure NewOk (h h2 : Hist) (M : Mv) (url : ByteArray) (push : Bool) : Prop where
  cur : curE h2 = M.entry
  url : M.entry.url = url
  len : h2.list.length = h.at_ + 2 - (h.at_ + 2 - 50)
  at_ : h2.at_ + 1 = h2.list.length
  get : ∀ i, i < h2.at_ → h2.list[i]? = h.list[i + (h.at_ + 2 - 50)]? ∧ i + (h.at_ + 2 - 50) < h.at_ + 1
  page : (M.page == (curE h).page) = push
  id : (curE h).id < M.entry.id
  enc : HEnc h2
theorem newOk_of {n : Nat} {h h2 : Hist} {M : Mv} {url : ByteArray} {push : Bool} (H : HOk n h) (V : VaOk h) (E : HEnc h) (e : Ent) (hl : h2.list = addL h e) (ha : h2.at_ = (addL h e).length - 1) (he : M.entry = { e with id := h.next }) (hu : e.url = url) (hp : (M.page == (curE h).page) = push) (hm : EncOk e.msg) : NewOk h h2 M url push := by
  obtain ⟨h1, h3⟩ := addL_get H e
  have hok := H.ok
  have hc := curE_add h e
  have hcur : curE h2 = curE (addM h e) := by unfold curE addM; rw [hl, ha]
  refine ⟨by rw [hcur, hc, he], by rw [he]; exact hu, by rw [hl]; exact h1, by rw [hl, ha]; omega, fun i hi => ?_, hp, ?_, fun x hx => ?_⟩
  · rw [hl]
    exact h3 i (by rw [ha] at hi; omega)
  · rw [he]
    exact (V.id _ (curE_mem h H.ok)).2
  · rw [hl] at hx
    rcases addL_mem hx with y | y
    · exact E x y
    · subst y; exact hm
theorem newOk_push {n : Nat} {h : Hist} (H : HOk n h) (V : VaOk h) (E : HEnc h) (url : ByteArray) : NewOk h (pushM h url Msg0) (pushV h url Msg0) url true :=
  newOk_of H V E (pushE h url Msg0) rfl rfl (pushV_entry h url Msg0) rfl (by show ((curE h).page == (curE h).page) = true; simp) encOk0
theorem newOk_nav {n : Nat} {h : Hist} (H : HOk n h) (P : PgOk h) (V : VaOk h) (E : HEnc h) (url : ByteArray) : NewOk h (navM h url true) (navV h url true) url false := by
  have hl : (navM h url true).list = addL h (navE h url) := by unfold navM; split <;> rfl
  have ha : (navM h url true).at_ = (addL h (navE h url)).length - 1 := by unfold navM; split <;> rfl
  have hc : curE (navH h url) = { navE h url with id := h.next } := curE_add h (navE h url)
  refine newOk_of H V E (navE h url) hl ha hc rfl ?_ encOk0
  show ((curE (navH h url)).page == (curE h).page) = false
  rw [hc]
  have := P.old _ (curE_mem h H.ok)
  refine beq_false_of_ne ?_
  show h.nextPage ≠ (curE h).page
  omega
end Go.Proofs.YtiecgbmeobpomaaDoor
