/-
  An operation of the law, plainly; the law's table of pages.
  History.Evict, New; one entry of the list is edited.
  History.Name, History.Scroll.
  History.Navigate.
-/
import Derived.Test.YtiecgbmeobpomaaDoorPHistoryPagesd
import Derived.Deep.QuietTactic
import Derived.BigQuiet
namespace Go.Proofs.YtiecgbmeobpomaaDoor
open Go.RowKit
set_option linter.unusedVariables false
set_option linter.unusedSimpArgs false

structure COp where
  kind : Nat
  url : ByteArray
  keep : Bool
  delta : Int
  msg : Msg
instance (h : Hist) (d : Int) : Decidable (GoOk h d) := inferInstanceAs (Decidable (_ ∧ _))
def doH (A : Msg → Bool) (h : Hist) (o : COp) : Hist :=
  if o.kind % 7 = 0 then navM h o.url o.keep
  else if o.kind % 7 = 1 then (if A o.msg = true then pushM h o.url o.msg else h)
  else if o.kind % 7 = 2 then (if A o.msg = true then replM h o.url o.msg else h)
  else if o.kind % 7 = 3 then (if GoOk h o.delta then goM h o.delta else h)
  else if o.kind % 7 = 4 then scrollM h o.delta o.url.size
  else if o.kind % 7 = 5 then nameM h o.url
  else (if o.delta ∈ h.sleeping then evictM h o.delta else h)
def doE (A : Msg → Bool) (h : Hist) (o : COp) : Int :=
  if o.kind % 7 = 0 then 0
  else if o.kind % 7 = 1 then (if A o.msg = true then 0 else 1)
  else if o.kind % 7 = 2 then (if A o.msg = true then 0 else 1)
  else if o.kind % 7 = 3 then (if GoOk h o.delta then 0 else 2)
  else if o.kind % 7 = 4 then 0
  else if o.kind % 7 = 5 then 0
  else (if o.delta ∈ h.sleeping then 0 else 6)
def doV (A : Msg → Bool) (h : Hist) (o : COp) : Mv :=
  if o.kind % 7 = 0 then navV h o.url o.keep
  else if o.kind % 7 = 1 then (if A o.msg = true then pushV h o.url o.msg else Mv0)
  else if o.kind % 7 = 3 then (if GoOk h o.delta then goV h o.delta else Mv0)
  else Mv0
theorem HOk.step {n : Nat} {h : Hist} (H : HOk n h) (A : Msg → Bool) (o : COp) (hm : MsgOk o.msg) : HOk (n + 1) (doH A h o) := by
  have k := H.mono (Nat.le_succ n)
  unfold doH
  repeat' split
  · exact H.nav _ _
  · exact H.push _ hm
  · exact k
  · exact k.repl _ hm
  · exact k
  · rename_i hd; exact H.go hd
  · exact k
  · exact k.scroll _ _
  · exact k.name _
  · exact k.evict _
  · exact k
theorem PgOk.step {n : Nat} {h : Hist} (P : PgOk h) (H : HOk n h) (A : Msg → Bool) (o : COp) : PgOk (doH A h o) := by
  unfold doH
  repeat' split
  · exact P.nav H _ _
  · exact P.push H _ _
  · exact P
  · exact P.set H (e := pushE h o.url o.msg) rfl
  · exact P
  · rename_i hd; exact P.go H hd
  · exact P
  · exact P.set H (e := { curE h with x := o.delta, y := o.url.size }) rfl
  · exact P.set H (e := { curE h with title := o.url }) rfl
  · exact P.evict _
  · exact P
def newH (url : ByteArray) : Hist := ⟨[⟨1, 1, url, ⟨#[]⟩, Msg0, 0, 0⟩], 0, 2, 2, []⟩
theorem HOk.new (url : ByteArray) : HOk 0 (newH url) :=
  ⟨by show 0 < 1; omega, by show 1 ≤ 50; omega, by show 0 ≤ 0; omega, by show (0 : Int) ≤ 2 ∧ (2 : Int) ≤ ((0 : Nat) : Int) + 2; omega, by show (2 : Int) ≤ 2 ∧ (2 : Int) ≤ ((0 : Nat) : Int) + 2; omega, fun e he => by
    rw [newH, List.mem_singleton] at he; subst he; exact msgOk0⟩
theorem PgOk.new (url : ByteArray) : PgOk (newH url) :=
  ⟨List.Pairwise.nil, (fun h => by cases h), (fun p h => by cases h), fun e he => by
    rw [newH, List.mem_singleton] at he; subst he; show (1 : Int) ≤ 1 ∧ (1 : Int) < 2; omega⟩
/-- All operations. -/
def doAll (A : Msg → Bool) (h : Hist) (l : List COp) : Hist := l.foldl (doH A) h
theorem doAll_ok (A : Msg → Bool) : ∀ (l : List COp) (n : Nat) (h : Hist), (∀ o ∈ l, MsgOk o.msg) → HOk n h → PgOk h → HOk (n + l.length) (doAll A h l) ∧ PgOk (doAll A h l)
  | [], n, h, _, H, P => ⟨H, P⟩
  | o :: l, n, h, hm, H, P => by
    have := doAll_ok A l (n + 1) (doH A h o) (fun x hx => hm x (List.mem_cons_of_mem _ hx)) (H.step A o (hm o List.mem_cons_self)) (P.step H A o)
    rw [List.length_cons, show n + (l.length + 1) = n + 1 + l.length by omega]
    exact this

/-- The table of the pages. -/
def pgAt (st : List Int) (p : Int) : Int := st.getD p.toNat 0
def pgSet (st : List Int) (p x : Int) : List Int := st.set p.toNat x
theorem pgSet_length (st : List Int) (p x : Int) : (pgSet st p x).length = st.length := List.length_set
theorem pgAt_set {st : List Int} {p q x : Int} (hp : 0 ≤ p) (hp2 : p < st.length) (hq : 0 ≤ q) : pgAt (pgSet st p x) q = if q = p then x else pgAt st q := by
  unfold pgAt pgSet
  rw [List.getD_eq_getElem?_getD, List.getD_eq_getElem?_getD, List.getElem?_set]
  by_cases h : q = p
  · subst h
    rw [if_pos rfl, if_pos (by omega), if_pos rfl]; rfl
  · rw [if_neg (by omega), if_neg h]
structure StOk (h : Hist) (st : List Int) : Prop where
  len : (st.length : Int) = h.nextPage
  pos : ∀ p : Int, 1 ≤ p → p < st.length → pgAt st p ≠ 0
  two : ∀ p : Int, 1 ≤ p → p < st.length → (pgAt st p = 2 ↔ p ∈ h.sleeping)
  one : ∀ p : Int, 1 ≤ p → p < st.length → (pgAt st p = 1 ↔ p = (curE h).page)
theorem StOk.new (url : ByteArray) : StOk (newH url) [0, 1] := by
  have h1 : ∀ p : Int, 1 ≤ p → p < (([0, 1] : List Int).length : Int) → p = 1 := fun p a b => by
    simp only [List.length_cons, List.length_nil] at b; omega
  refine ⟨rfl, fun p a b => ?_, fun p a b => ?_, fun p a b => ?_⟩ <;> (rw [h1 p a b]; simp [pgAt, newH, curE])
/-- The closed pages are marked one by one. -/
def stClose (st : List Int) (l : List Int) : List Int := l.foldl (fun s p => pgSet s p 3) st
theorem stClose_length : ∀ (l : List Int) (st : List Int), (stClose st l).length = st.length
  | [], st => rfl
  | p :: l, st => by rw [stClose, List.foldl_cons]; exact (stClose_length l _).trans (pgSet_length ..)
theorem stClose_at : ∀ (l : List Int) (st : List Int) (q : Int), 0 ≤ q → (∀ p ∈ l, 0 ≤ p ∧ p < st.length) → pgAt (stClose st l) q = if q ∈ l then 3 else pgAt st q
  | [], st, q, hq, hl => by simp [stClose]
  | p :: l, st, q, hq, hl => by
    have h1 := hl p List.mem_cons_self
    have ih := stClose_at l (pgSet st p 3) q hq (fun x hx => by rw [pgSet_length]; exact hl x (List.mem_cons_of_mem _ hx))
    rw [stClose, List.foldl_cons]
    refine ih.trans ?_
    rw [pgAt_set h1.1 h1.2 hq]
    by_cases a : q = p
    · subst a; simp
    · simp [a]
theorem stClose_take (st l : List Int) (i : Nat) (hi : i < l.length) : stClose st (l.take (i + 1)) = pgSet (stClose st (l.take i)) l[i] 3 := by
  unfold stClose
  rw [List.take_succ_eq_append_getElem hi, List.foldl_append]
  rfl
/-- What the law checks of a move, and the table behind it. -/
def stGrow (st : List Int) (v : Mv) : List Int := if v.page = st.length then st ++ [0] else st
def stLeft (st : List Int) (old : Int) (v : Mv) : List Int := if v.page = old then st else pgSet st old (if v.sleeps = true then 2 else 0)
def stMove (st : List Int) (old : Int) (v : Mv) : List Int := pgSet (stLeft (stGrow st v) old v) v.page 1
structure MvOk (h h' : Hist) (v : Mv) (st : List Int) : Prop where
  page : 1 ≤ v.page ∧ v.page ≤ st.length ∧ v.page = (curE h').page
  old : 1 ≤ (curE h).page ∧ (curE h).page < st.length
  wake : v.awake = true ↔ pgAt (stGrow st v) v.page = 1 ∨ pgAt (stGrow st v) v.page = 2
  sleeps : v.page = (curE h).page → v.sleeps = false
  asc : v.closed.Pairwise (· < ·)
  closed : ∀ p ∈ v.closed, 1 ≤ p ∧ p < (stMove st (curE h).page v).length ∧ (pgAt (stMove st (curE h).page v) p = 0 ∨ pgAt (stMove st (curE h).page v) p = 2)
  st : StOk h' (stClose (stMove st (curE h).page v) v.closed)
theorem pgAt_snoc {st : List Int} {p : Int} (hp : 0 ≤ p) (h : p ≤ st.length) : pgAt (st ++ [0]) p = if p = st.length then 0 else pgAt st p := by
  unfold pgAt
  by_cases a : p = st.length
  · subst a; simp
  · rw [if_neg a, List.getD_eq_getElem?_getD, List.getD_eq_getElem?_getD, List.getElem?_append_left (by omega)]
theorem shown_mem {h : Hist} {p : Int} : shownP h p = true ↔ ∃ e ∈ h.list, e.page = p := by
  unfold shownP
  rw [List.any_eq_true]
  constructor
  · rintro ⟨e, h1, h2⟩; exact ⟨e, h1, by simpa using h2⟩
  · rintro ⟨e, h1, h2⟩; exact ⟨e, h1, by simpa using h2⟩
theorem kept_mem {h : Hist} {l : List Int} {p : Int} : p ∈ keptL h l ↔ p ∈ l ∧ shownP h p = true := List.mem_filter
theorem gone_mem {h : Hist} {l : List Int} {p : Int} : p ∈ goneL h l ↔ p ∈ l ∧ ¬ shownP h p = true := by
  unfold goneL
  rw [List.mem_filter]
  simp
theorem mvOk_nav {n : Nat} {h : Hist} {st : List Int} (H : HOk n h) (P : PgOk h) (S : StOk h st) (url : ByteArray) (keep : Bool) : MvOk h (navM h url keep) (navV h url keep) st := by
  have hc : curE (navH h url) = { navE h url with id := h.next } := curE_add h (navE h url)
  have hp : (navV h url keep).page = st.length := by
    show (curE (navH h url)).page = _
    rw [hc, S.len]; rfl
  have hcur : curE (navM h url keep) = curE (navH h url) := by unfold navM; split <;> rfl
  have hold := P.old _ (curE_mem h H.ok)
  have hl := S.len
  have hpg := H.page
  have hne : ¬ (navV h url keep).page = (curE h).page := by rw [hp]; omega
  have hg : stGrow st (navV h url keep) = st ++ [0] := by unfold stGrow; rw [if_pos hp]
  have hgl : (stGrow st (navV h url keep)).length = st.length + 1 := by rw [hg, List.length_append]; rfl
  have hlf : (stLeft (stGrow st (navV h url keep)) (curE h).page (navV h url keep)) = pgSet (st ++ [0]) (curE h).page (if navS h url keep = true then 2 else 0) := by
    unfold stLeft; rw [if_neg hne, hg]; rfl
  have hml : (stMove st (curE h).page (navV h url keep)).length = st.length + 1 := by
    unfold stMove
    rw [pgSet_length, hlf, pgSet_length, List.length_append]; rfl
  have hat : ∀ q : Int, 0 ≤ q → q ≤ st.length → pgAt (stMove st (curE h).page (navV h url keep)) q = if q = st.length then 1 else if q = (curE h).page then (if navS h url keep = true then 2 else 0) else pgAt st q := fun q h0 h1 => by
    unfold stMove
    rw [hlf, hp, pgAt_set (by omega) (by rw [pgSet_length, List.length_append]; simp only [List.length_cons, List.length_nil]; omega) h0]
    by_cases a : q = st.length
    · rw [if_pos a, if_pos a]
    · rw [if_neg a, if_neg a, pgAt_set (by omega) (by rw [List.length_append]; simp only [List.length_cons, List.length_nil]; omega) h0, pgAt_snoc h0 h1, if_neg a]
  have hcl : ∀ p, p ∈ (navV h url keep).closed ↔ (p ∈ h.sleeping ∧ ¬ shownP (navH h url) p = true) ∨ (¬ navS h url keep = true ∧ p = (curE h).page) := fun p => by
    unfold navV
    simp only
    split
    · rename_i hs
      rw [gone_mem]
      simp [hs]
    · rename_i hs
      rw [mem_snoc, gone_mem]
      simp [hs]
  refine ⟨⟨by rw [hp]; omega, by rw [hp]; omega, by rw [hcur]; rfl⟩, ⟨hold.1, by omega⟩, ?_, fun e => (hne e).elim, ?_, fun p hpc => ?_, ?_⟩
  · rw [hg, hp, pgAt_snoc (by omega) (by omega), if_pos rfl]
    show (false = true) ↔ _
    simp
  · unfold navV
    simp only
    split
    · exact P.asc.filter _
    · exact asc_snoc (P.asc.filter _) (fun hx => P.cur (gone_mem.1 hx).1)
  · rw [hml]
    rcases (hcl p).1 hpc with ⟨a, -⟩ | ⟨hs, rfl⟩
    · have h1 := P.lt p a
      have h2 : p ≠ (curE h).page := fun e => P.cur (e ▸ a)
      refine ⟨h1.1, by omega, .inr ?_⟩
      rw [hat p (by omega) (by omega), if_neg (by omega), if_neg h2]
      exact (S.two p h1.1 (by omega)).2 a
    · refine ⟨hold.1, by omega, .inl ?_⟩
      rw [hat _ (by omega) (by omega), if_neg (by omega), if_pos rfl, if_neg hs]
  · have hin : ∀ p ∈ (navV h url keep).closed, 0 ≤ p ∧ p < ((stMove st (curE h).page (navV h url keep)).length : Int) := fun p hpc => by
      rw [hml]
      rcases (hcl p).1 hpc with ⟨a, -⟩ | ⟨hs, rfl⟩
      · have h1 := P.lt p a; omega
      · omega
    have hnp : (navM h url keep).nextPage = h.nextPage + 1 := by unfold navM; split <;> rfl
    have hsl : ∀ p, p ∈ (navM h url keep).sleeping ↔ (p ∈ h.sleeping ∧ shownP (navH h url) p = true) ∨ (navS h url keep = true ∧ p = (curE h).page) := fun p => by
      unfold navM
      split
      · rename_i hs
        show p ∈ sorted (keptL (navH h url) h.sleeping ++ [(curE h).page]) ↔ _
        rw [mem_snoc, kept_mem]
        simp [hs]
      · rename_i hs
        show p ∈ keptL (navH h url) h.sleeping ↔ _
        rw [kept_mem]
        simp [hs]
    have hfin : ∀ p : Int, 1 ≤ p → p < st.length + 1 → pgAt (stClose (stMove st (curE h).page (navV h url keep)) (navV h url keep).closed) p = if p ∈ (navV h url keep).closed then 3 else if p = st.length then 1 else if p = (curE h).page then (if navS h url keep = true then 2 else 0) else pgAt st p := fun p a b => by
      rw [stClose_at _ _ _ (by omega) hin, hat p (by omega) (by omega)]
    have hlen : ((stClose (stMove st (curE h).page (navV h url keep)) (navV h url keep).closed).length : Int) = st.length + 1 := by rw [stClose_length, hml]; omega
    refine ⟨by rw [hlen, hnp, hl], fun p a b => ?_, fun p a b => ?_, fun p a b => ?_⟩ <;> (rw [hlen] at b; rw [hfin p a b]; have hcp := hcl p; clear hfin hin hat hcl)
    · split
      · decide
      · rename_i hx
        rw [hcp] at hx
        split
        · decide
        · split
          · rename_i h1 h2
            split
            · decide
            · rename_i h3
              exact (hx (.inr ⟨h3, h2⟩)).elim
          · exact S.pos p a (by omega)
    · rw [hsl p]
      by_cases hx : p ∈ (navV h url keep).closed
      · rw [if_pos hx]
        refine ⟨fun e => (by cases e), fun e => ?_⟩
        rcases hcp.1 hx with ⟨x1, x2⟩ | ⟨x1, x2⟩ <;> rcases e with ⟨y1, y2⟩ | ⟨y1, y2⟩
        · exact (x2 y2).elim
        · exact (P.cur (y2 ▸ x1)).elim
        · exact (P.cur (x2 ▸ y1)).elim
        · exact (x1 y1).elim
      · rw [if_neg hx]
        rw [hcp] at hx
        by_cases h1 : p = st.length
        · rw [if_pos h1]
          refine ⟨fun e => (by cases e), fun e => ?_⟩
          rcases e with ⟨y1, y2⟩ | ⟨y1, y2⟩
          · have := P.lt p y1; omega
          · omega
        · rw [if_neg h1]
          by_cases h2 : p = (curE h).page
          · rw [if_pos h2]
            by_cases h3 : navS h url keep = true
            · rw [if_pos h3]
              exact ⟨fun _ => .inr ⟨h3, h2⟩, fun _ => rfl⟩
            · exact (hx (.inr ⟨h3, h2⟩)).elim
          · rw [if_neg h2, S.two p a (by omega)]
            refine ⟨fun e => .inl ⟨e, Classical.not_not.1 fun hs => hx (.inl ⟨e, hs⟩)⟩, fun e => ?_⟩
            rcases e with ⟨y1, y2⟩ | ⟨y1, y2⟩
            · exact y1
            · exact (h2 y2).elim
    · rw [hcur, hc]
      show _ ↔ p = h.nextPage
      by_cases hx : p ∈ (navV h url keep).closed
      · rw [if_pos hx]
        refine ⟨fun e => (by cases e), fun e => ?_⟩
        rcases hcp.1 hx with ⟨x1, x2⟩ | ⟨x1, x2⟩
        · have := P.lt p x1; omega
        · omega
      · rw [if_neg hx]
        by_cases h1 : p = st.length
        · rw [if_pos h1]; exact ⟨fun _ => by omega, fun _ => rfl⟩
        · rw [if_neg h1]
          by_cases h2 : p = (curE h).page
          · rw [if_pos h2]
            refine ⟨fun e => ?_, fun e => by omega⟩
            split at e <;> cases e
          · rw [if_neg h2, S.one p a (by omega)]
            exact ⟨fun e => (h2 e).elim, fun e => by omega⟩
theorem mvOk_push {n : Nat} {h : Hist} {st : List Int} (H : HOk n h) (P : PgOk h) (S : StOk h st) (url : ByteArray) (m : Msg) : MvOk h (pushM h url m) (pushV h url m) st := by
  have hc : curE (pushH h url m) = { pushE h url m with id := h.next } := curE_add h (pushE h url m)
  have hcur : curE (pushM h url m) = curE (pushH h url m) := rfl
  have hcp : (curE (pushM h url m)).page = (curE h).page := by rw [hcur, hc]; rfl
  have hold := P.old _ (curE_mem h H.ok)
  have hl := S.len
  have hp : (pushV h url m).page = (curE h).page := rfl
  have hg : stGrow st (pushV h url m) = st := by unfold stGrow; rw [if_neg (by rw [hp]; omega)]
  have hlf : stLeft st (curE h).page (pushV h url m) = st := by unfold stLeft; rw [if_pos hp]
  have hmv : stMove st (curE h).page (pushV h url m) = pgSet st (curE h).page 1 := by unfold stMove; rw [hg, hlf, hp]
  have h1 : pgAt st (curE h).page = 1 := (S.one _ hold.1 (by omega)).2 rfl
  have hat : ∀ q : Int, 0 ≤ q → pgAt (pgSet st (curE h).page 1) q = pgAt st q := fun q h0 => by
    rw [pgAt_set (by omega) (by omega) h0]
    by_cases a : q = (curE h).page
    · rw [if_pos a, a, h1]
    · rw [if_neg a]
  have hcl : ∀ p, p ∈ (pushV h url m).closed ↔ p ∈ h.sleeping ∧ ¬ shownP (pushH h url m) p = true := fun p => gone_mem
  refine ⟨⟨by rw [hp]; omega, by rw [hp]; omega, by rw [hcp, hp]⟩, ⟨hold.1, by omega⟩, ?_, fun _ => rfl, P.asc.filter _, fun p hpc => ?_, ?_⟩
  · rw [hg, hp, h1]
    exact ⟨fun _ => .inl rfl, fun _ => rfl⟩
  · have a := (hcl p).1 hpc
    have h2 := P.lt p a.1
    rw [hmv, pgSet_length, hat p (by omega)]
    exact ⟨h2.1, by omega, .inr ((S.two p h2.1 (by omega)).2 a.1)⟩
  · rw [hmv]
    have hin : ∀ p ∈ (pushV h url m).closed, 0 ≤ p ∧ p < ((pgSet st (curE h).page 1).length : Int) := fun p hpc => by
      have h2 := P.lt p ((hcl p).1 hpc).1
      rw [pgSet_length]; omega
    have hfin : ∀ p : Int, 1 ≤ p → pgAt (stClose (pgSet st (curE h).page 1) (pushV h url m).closed) p = if p ∈ (pushV h url m).closed then 3 else pgAt st p := fun p a => by
      rw [stClose_at _ _ _ (by omega) hin, hat p (by omega)]
    have hlen : ((stClose (pgSet st (curE h).page 1) (pushV h url m).closed).length : Int) = st.length := by rw [stClose_length, pgSet_length]
    refine ⟨by rw [hlen, hl]; rfl, fun p a b => ?_, fun p a b => ?_, fun p a b => ?_⟩ <;> (rw [hlen] at b; rw [hfin p a]; have hx := hcl p)
    · split
      · decide
      · exact S.pos p a b
    · show _ ↔ p ∈ keptL (pushH h url m) h.sleeping
      rw [kept_mem]
      split
      · rename_i hy
        exact ⟨fun e => (by cases e), fun e => ((hx.1 hy).2 e.2).elim⟩
      · rename_i hy
        rw [S.two p a b]
        exact ⟨fun e => ⟨e, Classical.not_not.1 fun hs => hy (hx.2 ⟨e, hs⟩)⟩, fun e => e.1⟩
    · rw [hcp]
      split
      · rename_i hy
        exact ⟨fun e => (by cases e), fun e => (P.cur (e ▸ (hx.1 hy).1)).elim⟩
      · exact S.one p a b
theorem mvOk_go {n : Nat} {h : Hist} {st : List Int} (H : HOk n h) (P : PgOk h) (S : StOk h st) {d : Int} (hd : GoOk h d) : MvOk h (goM h d) (goV h d) st := by
  have k := H.goH hd
  have hold := P.old _ (curE_mem h H.ok)
  have hnew := P.old _ (curE_mem (goH h d) k.ok)
  have hl := S.len
  have hp : (goV h d).page = (curE (goH h d)).page := by unfold goV; split <;> rfl
  have hcur : curE (goM h d) = curE (goH h d) := by unfold goM; split <;> rfl
  have hclo : (goV h d).closed = [] := by unfold goV; split <;> rfl
  have hnp : (goM h d).nextPage = h.nextPage := by unfold goM; split <;> rfl
  have hg : stGrow st (goV h d) = st := by unfold stGrow; rw [if_neg (by rw [hp]; omega)]
  have h1 : pgAt st (curE h).page = 1 := (S.one _ hold.1 (by omega)).2 rfl
  by_cases he : (curE (goH h d)).page = (curE h).page
  · have hlf : stLeft st (curE h).page (goV h d) = st := by unfold stLeft; rw [if_pos (by rw [hp]; exact he)]
    have hmv : stMove st (curE h).page (goV h d) = pgSet st (curE h).page 1 := by unfold stMove; rw [hg, hlf, hp, he]
    have hat : ∀ q : Int, 0 ≤ q → pgAt (pgSet st (curE h).page 1) q = pgAt st q := fun q h0 => by
      rw [pgAt_set (by omega) (by omega) h0]
      by_cases a : q = (curE h).page
      · rw [if_pos a, a, h1]
      · rw [if_neg a]
    refine ⟨⟨by rw [hp]; omega, by rw [hp]; omega, by rw [hp, hcur]⟩, ⟨hold.1, by omega⟩, ?_, fun _ => by unfold goV; rw [if_pos he], by rw [hclo]; exact .nil, fun p hpc => (by rw [hclo] at hpc; cases hpc), ?_⟩
    · rw [hg, hp, he, h1]
      exact ⟨fun _ => .inl rfl, fun _ => by unfold goV; rw [if_pos he]⟩
    · rw [hclo, hmv]
      show StOk _ (pgSet st (curE h).page 1)
      have hsl : (goM h d).sleeping = h.sleeping := by unfold goM; rw [if_pos he]; rfl
      refine ⟨by rw [pgSet_length, hnp, hl], fun p a b => ?_, fun p a b => ?_, fun p a b => ?_⟩ <;> (rw [pgSet_length] at b; rw [hat p (by omega)])
      · exact S.pos p a b
      · rw [hsl]; exact S.two p a b
      · rw [hcur, he]; exact S.one p a b
  · have hsp : (goV h d).sleeps = true := by unfold goV; rw [if_neg he]
    have hlf : stLeft st (curE h).page (goV h d) = pgSet st (curE h).page 2 := by unfold stLeft; rw [if_neg (by rw [hp]; exact he), hsp, if_pos rfl]
    have hmv : stMove st (curE h).page (goV h d) = pgSet (pgSet st (curE h).page 2) (curE (goH h d)).page 1 := by unfold stMove; rw [hg, hlf, hp]
    have hat : ∀ q : Int, 0 ≤ q → pgAt (pgSet (pgSet st (curE h).page 2) (curE (goH h d)).page 1) q = if q = (curE (goH h d)).page then 1 else if q = (curE h).page then 2 else pgAt st q := fun q h0 => by
      rw [pgAt_set (by omega) (by rw [pgSet_length]; omega) h0, pgAt_set (by omega) (by omega) h0]
    refine ⟨⟨by rw [hp]; omega, by rw [hp]; omega, by rw [hp, hcur]⟩, ⟨hold.1, by omega⟩, ?_, fun e => (he (by rw [hp] at e; exact e)).elim, by rw [hclo]; exact .nil, fun p hpc => (by rw [hclo] at hpc; cases hpc), ?_⟩
    · rw [hg, hp, S.two _ hnew.1 (by have : (curE (goH h d)).page < h.nextPage := hnew.2; omega), S.one _ hnew.1 (by have : (curE (goH h d)).page < h.nextPage := hnew.2; omega)]
      unfold goV
      rw [if_neg he]
      simp [he]
    · rw [hclo, hmv]
      show StOk _ (pgSet (pgSet st (curE h).page 2) (curE (goH h d)).page 1)
      have hsl : ∀ p, p ∈ (goM h d).sleeping ↔ (p ∈ h.sleeping ∧ p ≠ (curE (goH h d)).page) ∨ p = (curE h).page := fun p => by
        unfold goM
        rw [if_neg he]
        show p ∈ sorted (h.sleeping.erase (curE (goH h d)).page ++ [(curE h).page]) ↔ _
        rw [mem_snoc, P.nd.mem_erase_iff]
        constructor
        · rintro (⟨a, b⟩ | a)
          · exact .inl ⟨b, a⟩
          · exact .inr a
        · rintro (⟨a, b⟩ | a)
          · exact .inl ⟨b, a⟩
          · exact .inr a
      refine ⟨by rw [pgSet_length, pgSet_length, hnp, hl], fun p a b => ?_, fun p a b => ?_, fun p a b => ?_⟩ <;> (rw [pgSet_length, pgSet_length] at b; rw [hat p (by omega)])
      · split
        · decide
        · split
          · decide
          · exact S.pos p a b
      · rw [hsl]
        by_cases x : p = (curE (goH h d)).page
        · rw [if_pos x]
          refine ⟨fun e => (by cases e), fun e => ?_⟩
          rcases e with ⟨-, y⟩ | y
          · exact (y x).elim
          · exact (he (x.symm.trans y)).elim
        · rw [if_neg x]
          by_cases y : p = (curE h).page
          · rw [if_pos y]
            exact ⟨fun _ => .inr y, fun _ => rfl⟩
          · rw [if_neg y, S.two p a b]
            exact ⟨fun e => .inl ⟨e, x⟩, fun e => e.elim (fun z => z.1) (fun z => (y z).elim)⟩
      · rw [hcur]
        by_cases x : p = (curE (goH h d)).page
        · rw [if_pos x]; exact ⟨fun _ => x, fun _ => rfl⟩
        · rw [if_neg x]
          by_cases y : p = (curE h).page
          · rw [if_pos y]
            exact ⟨fun e => (by cases e), fun e => (x e).elim⟩
          · rw [if_neg y, S.one p a b]
            exact ⟨fun e => (y e).elim, fun e => (x e).elim⟩
theorem stOk_evict {n : Nat} {h : Hist} {st : List Int} (H : HOk n h) (P : PgOk h) (S : StOk h st) {p : Int} (hp : p ∈ h.sleeping) : 1 ≤ p ∧ p < st.length ∧ pgAt st p = 2 ∧ StOk (evictM h p) (pgSet st p 4) := by
  have h1 := P.lt p hp
  have hl := S.len
  refine ⟨h1.1, by omega, (S.two p h1.1 (by omega)).2 hp, by rw [pgSet_length]; exact hl, fun q a b => ?_, fun q a b => ?_, fun q a b => ?_⟩ <;> (rw [pgSet_length] at b; rw [pgAt_set (by omega) (by omega) (by omega)])
  · split
    · decide
    · exact S.pos q a b
  · show _ ↔ q ∈ h.sleeping.erase p
    rw [P.nd.mem_erase_iff]
    split
    · rename_i e
      exact ⟨fun e => (by cases e), fun x => (x.1 e).elim⟩
    · rename_i e
      rw [S.two q a b]
      exact ⟨fun x => ⟨e, x⟩, fun x => x.2⟩
  · show _ ↔ q = (curE h).page
    split
    · rename_i e
      subst e
      exact ⟨fun e => (by cases e), fun x => (P.cur (x ▸ hp)).elim⟩
    · exact S.one q a b
theorem stOk_set {n : Nat} {h : Hist} {st : List Int} (H : HOk n h) (S : StOk h st) {e : Ent} (he : e.page = (curE h).page) : StOk { h with list := h.list.set h.at_ e } st := by
  refine ⟨S.len, S.pos, S.two, fun p a b => ?_⟩
  rw [S.one p a b]
  show _ ↔ p = (List.getD (h.list.set h.at_ e) h.at_ Ent0).page
  rw [List.getD_eq_getElem?_getD, List.getElem?_set_self H.ok]
  show _ ↔ p = e.page
  rw [he]
end Go.Proofs.YtiecgbmeobpomaaDoor
namespace Go.Proofs.YtiecgbmeobpomaaDoor
open Go.RowKit
set_option linter.unusedVariables false
set_option linter.unusedSimpArgs false

def evictE (h : Hist) (p : Int) : Int := if p ∈ h.sleeping then 0 else 6
def evictX (h : Hist) (p : Int) : Hist := if p ∈ h.sleeping then evictM h p else h
set_option maxHeartbeats 6400000 in
set_option maxRecDepth 100000 in
theorem evict_any (w0 : Past) (w : World) (b : Nat) (h : Hist) (vl vs : Value) (rs : List EntR) (H : HiAt w0 w b h vl vs rs) (p : Int) :
    Calls Tryd.prog 29 #[.pointer (some ⟨b, 0, none⟩), .int .i64 p] w fun z w' => z = .returned (.int .i64 (evictE h p)) ∧ OpX w0 w b (Mut b vl vs) (evictX h p) w' := by
  have HH := Lib.hid H
  have d0 := cell_of_block (i := 4) H.box rfl
  simp only [List.getElem_toArray, List.getElem_cons_zero, List.getElem_cons_succ] at d0
  have HIX := Lib.hid (idxI_any w vs h.sleeping p H.slp)
  have HF := Lib.hid H.few.2
  rcases idxOf_or p h.sleeping with ⟨hn, hi⟩ | ⟨i, hi, hx, he, hm⟩
  · rw [hi] at HIX
    have hE : evictE h p = 6 := by unfold evictE; rw [if_neg hn]
    have hX : evictX h p = h := by unfold evictX; rw [if_neg hn]
    rw [hE, hX]
    clear H hn hi hE hX
    go_enter Tryd.func29, Tryd.ntmps29
    go_wp2_with (go_at_call 39; refine HIX.out.mono ?_; rintro _ w1 ⟨rfl, rfl⟩)
    go_ret
    exact ⟨rfl, HH.out.opx⟩
  · rw [hx] at HIX
    have hE : evictE h p = 0 := by unfold evictE; rw [if_pos hm]
    have hX : evictX h p = { h with sleeping := h.sleeping.take i ++ h.sleeping.drop (i + 1) } := by unfold evictX; rw [if_pos hm, he]; rfl
    rw [hE, hX]
    have HDE := Lib.hid (delI_any w vs h.sleeping i (i + 1) H.slp (Nat.lt_succ_self i) hi)
    have i0 : ¬ ((i : Int) < 0) := by omega
    have wi : IntKind.i64.wrap ((i : Int) + 1) = ((i + 1 : Nat) : Int) := IntWalk.i64_in _ (by have := HF.out; omega)
    have wi1 : wrap64 ((i : Int) + 1) = ((i + 1 : Nat) : Int) := IntWalk.wrap64_in _ (by have := HF.out; omega)
    have FR : Hid (∀ W1, Chg (fun k => vs.ownBlock = some k) w W1 → (∃ u, W1.cell? ⟨b, 4, none⟩ = some u) ∧ W1.frozen? ⟨b, 4, none⟩ = false) := Lib.hid (fun W1 hc => by
      have hb := hc.keep HH.out.box HH.out.sb
      exact ⟨⟨_, cell_of_block (i := 4) hb rfl⟩, frozen_of_block hb⟩)
    have HLL : Hid ((h.sleeping.take i ++ h.sleeping.drop (i + 1)).length ≤ 1000) := Lib.hid (by rw [List.length_append, List.length_take, List.length_drop]; have := HF.out; omega)
    clear H hi hx he hm hE hX
    generalize h.sleeping.take i ++ h.sleeping.drop (i + 1) = zs at *
    go_enter Tryd.func29, Tryd.ntmps29
    go_upto_region 5 with first
      | (go_at_call 39; refine HIX.out.mono ?_; rintro _ w1 ⟨rfl, rfl⟩)
      | (go_at_call 40; refine HDE.out.mono ?_; rintro _ w2 ⟨v2, rfl, hrow2, hch2, hold2⟩; obtain ⟨a2, c2, rfl, -, -⟩ := hrow2.slice; obtain ⟨⟨u2, hu2⟩, hf2⟩ := FR.out w2 hch2)
    have HR := Lib.hid (HH.out.resleep hch2 zs hrow2 HLL.out (fun k hk => .inl (hold2 k hk)))
    have HCS := Lib.hid (hch2.trans (Chg.setCell w2 ⟨b, 4, none⟩ (.slice a2 zs.length c2)) (fun k _ x => (.inr (.inr x) : Mut b vl vs k)) (fun k _ x => .inl x))
    have HOL := Lib.hid hold2
    clear hrow2 hch2 hold2 hu2 hf2 FR d0
    generalize w2.setCell ⟨b, 4, none⟩ (.slice a2 zs.length c2) = w3 at *
    go_wp2_with fail
    go_ret
    exact ⟨rfl, _, _, _, HR.out, HCS.out, fun k _ x => x.elim .inl (fun y => .inr (y.elim .inl (fun z => .inr (HOL.out k z))))⟩
set_option maxHeartbeats 6400000 in
set_option maxRecDepth 100000 in
theorem new_any (w : World) (url : ByteArray) :
    Calls Tryd.prog 13 #[.string url] w fun z w' => ∃ vl, z = .returned (.agg #[vl, .int .i64 0, .int .i64 2, .int .i64 2, .slice none 0 0]) ∧ Chg (fun _ => False) w w' ∧
      RowAt w' 34 8 vl 1 [.int .i64 1, .int .i64 1, .string url, .string ⟨#[]⟩, .slice none 0 0, .slice none 0 0, .int .i64 0, .int .i64 0] ∧ (∀ k, vl.ownBlock = some k → w.heap.size ≤ k) := by
  go_enter Tryd.func13, Tryd.ntmps13
  go_upto_region 1 with fail
  go_wp2_with fail
  have hb := alloc_old (.cells #[.int .i64 1, .int .i64 1, .string url, .string ⟨#[]⟩, .slice none 0 0, .slice none 0 0, .int .i64 0, .int .i64 0] 34) (alloc_block w (.cells #[.slice (some ⟨w.heap.size + 1, 0, none⟩) 1 1, .int .i64 0, .int .i64 2, .int .i64 2, .slice none 0 0] 28))
  have hr := RowAt.singleAt (w.alloc (.cells #[.slice (some ⟨w.heap.size + 1, 0, none⟩) 1 1, .int .i64 0, .int .i64 2, .int .i64 2, .slice none 0 0] 28)) 34 8 (w.heap.size + 1) #[.int .i64 1, .int .i64 1, .string url, .string ⟨#[]⟩, .slice none 0 0, .slice none 0 0, .int .i64 0, .int .i64 0] (World.size_alloc ..) rfl
  have hc := (Chg.alloc (fun _ => False) w (.cells #[.slice (some ⟨w.heap.size + 1, 0, none⟩) 1 1, .int .i64 0, .int .i64 2, .int .i64 2, .slice none 0 0] 28)).allocR (.cells #[.int .i64 1, .int .i64 1, .string url, .string ⟨#[]⟩, .slice none 0 0, .slice none 0 0, .int .i64 0, .int .i64 0] 34)
  refine bodyPost_ret (results_cell_row rfl _ _ w.heap.size _ _ _ _ (by rfl) hb Tryd.underlying28 rfl (by kernel_rfl)) rfl ?_
  refine ⟨_, rfl, hc, hr, fun k hk => ?_⟩
  have : w.heap.size + 1 = k := by simpa [Value.ownBlock] using hk
  omega
/-- The new history, stored at b. -/
theorem newHi {w0 : Past} {W : World} {b : Nat} {vl : Value} {url : ByteArray} (hb : W.heap[b]? = some (.cells #[vl, .int .i64 0, .int .i64 2, .int .i64 2, .slice none 0 0] 28 (0, 0)))
    (hr : RowAt W 34 8 vl 1 [.int .i64 1, .int .i64 1, .string url, .string ⟨#[]⟩, .slice none 0 0, .slice none 0 0, .int .i64 0, .int .i64 0]) (hc : Chg (fun _ => False) w0 W) (hlo : ∀ k, vl.ownBlock = some k → w0.heap.size ≤ k ∧ k ≠ b) (hbl : w0.heap.size ≤ b) (hx : ∀ k, w0.X k → k < w0.heap.size) :
    HiAt w0 W b (newH url) vl (.slice none 0 0) [⟨1, 1, url, ⟨#[]⟩, .slice none 0 0, .slice none 0 0, 0, 0⟩] := by
  refine ⟨hb, hr, RowAt.nil _ _ _, rfl, fun i a c => ?_, fun e => (hlo b e).2 rfl, fun e => by simp [Value.ownBlock] at e, fun k _ e => by simp [Value.ownBlock] at e, fun k hk => ?_, hc, by show 0 < 1; omega, ⟨by show 1 ≤ 100; omega, by show 0 ≤ 1000; omega⟩, (HOk.new url).msgs, fun k hk => Nat.lt_of_lt_of_le (hx k hk) hc.size, fun k hk x => ?_⟩
  · have : i = 0 := by simp only [List.length_singleton] at a; omega
    subst this
    exact ⟨rfl, rfl, rfl, rfl, MsgAt.none _ _, rfl, rfl⟩
  · rcases hk with x | x | x
    · omega
    · exact (hlo k x).1
    · simp [Value.ownBlock] at x
  · have h1 := hx k x
    rcases hk with y | y | y
    · omega
    · have := (hlo k y).1; omega
    · simp [Value.ownBlock] at y

/-- Cells of a row are written. -/
theorem put_cellsN {w : World} {g off n m cap e size i : Nat} {xs zs : List Value} (h : RowAt w e size (.slice (some ⟨g, off, none⟩) m cap) n xs) (hi : i + zs.length ≤ n * size) :
    RowAt (w.setCells g (off + i) zs) e size (.slice (some ⟨g, off, none⟩) m cap) n (xs.take i ++ zs ++ xs.drop (i + zs.length)) := by
  obtain ⟨hl, hr⟩ := h
  rcases hr with ⟨h0, -⟩ | ⟨g', off', cap', cur, hv, hg, h1, h2, h3, h4⟩
  · cases h0
  cases hv
  have hns : n * size ≤ cap * size := Nat.mul_le_mul_right _ h1
  refine ⟨by rw [List.length_append, List.length_append, List.length_take, List.length_drop]; omega, .inr ⟨g, off, cap, _, rfl, setCells_block zs _ hg, h1, h2, by rw [putAt_size]; exact h3, ?_⟩⟩
  have hcl : cur.toList.length = cur.size := Array.length_toList
  rw [putAt_toList _ _ _ (by omega)]
  have hA : (cur.toList.take (off + i)).length = off + i := by rw [List.length_take]; omega
  rw [List.append_assoc, List.drop_append_of_le_length (by omega)]
  have e1 : (cur.toList.take (off + i)).drop off = xs.take i := by
    rw [← h4, List.take_take, Nat.min_eq_left (by omega), List.drop_take]
    congr 1; omega
  have e2 : (cur.toList.drop (off + i + zs.length)).take (n * size - (i + zs.length)) = xs.drop (i + zs.length) := by
    rw [← h4, List.drop_take, List.drop_drop, show off + i + zs.length = off + (i + zs.length) by omega]
  have hB : (xs.take i).length = i := by rw [List.length_take]; omega
  rw [e1, List.append_assoc, show n * size = (xs.take i).length + (n * size - i) by omega, List.take_length_add_append, show n * size - i = zs.length + (n * size - (i + zs.length)) by omega, List.take_length_add_append, e2]
theorem flatE_set (r : EntR) : ∀ (l : List EntR) (i : Nat), i < l.length → (l.flatMap EntR.cells).take (i * 8) ++ r.cells ++ (l.flatMap EntR.cells).drop (i * 8 + 8) = (l.set i r).flatMap EntR.cells
  | [], i, h => by simp at h
  | a :: l, 0, h => by
    have hl : a.cells.length = 8 := EntR.len a
    rw [List.flatMap_cons, Nat.zero_mul, List.take_zero, List.nil_append, Nat.zero_add, List.set_cons_zero, List.flatMap_cons, ← hl, List.drop_left]
  | a :: l, i + 1, h => by
    have hl : a.cells.length = 8 := EntR.len a
    have ih := flatE_set r l i (by simpa using h)
    rw [List.flatMap_cons, List.set_cons_succ, List.flatMap_cons, ← ih, show (i + 1) * 8 = a.cells.length + i * 8 by rw [hl]; omega, List.take_length_add_append, Nat.add_assoc, List.drop_length_add_append]
    simp only [List.append_assoc]
section
variable {w0 : Past} {w w1 w2 : World} {b : Nat} {h : Hist} {vl vs : Value} {rs : List EntR}
/-- The current entry is edited. -/
theorem HiAt.edited (H : HiAt w0 w b h vl vs rs) (r : EntR) (e : Ent) (hc : Chg (fun k => vl.ownBlock = some k) w w1) (row' : RowAt w1 34 8 vl rs.length ((rs.set h.at_ r).flatMap EntR.cells)) (he : EntAt (Off w0 b vl vs) w r e) (hm : MsgOk e.msg) :
    HiAt w0 w1 b { h with list := h.list.set h.at_ e } vl vs (rs.set h.at_ r) := by
  have hll : (rs.set h.at_ r).length = rs.length := List.length_set
  have hlh : (h.list.set h.at_ e).length = h.list.length := List.length_set
  refine ⟨hc.keep H.box H.lb, by rw [hll]; exact row', H.slp.chg hc (fun k hk x => H.ls k x hk), by rw [hll, H.len]; exact hlh.symm, fun i a c => ?_, H.lb, H.sb, H.ls, H.lo, H.chg.trans hc (fun _ _ x => x) (fun k hk x => by have := H.lo k (.inr (.inl x)); omega), by show h.at_ < (h.list.set h.at_ e).length; rw [hlh]; exact H.ok, ⟨by show (h.list.set h.at_ e).length ≤ 100; rw [hlh]; exact H.few.1, H.few.2⟩, fun x hx => ?_, fun k hk => Nat.lt_of_lt_of_le (H.xl k hk) hc.size, H.xm⟩
  · have hh : EntAt (Off w0 b vl vs) w (rs.set h.at_ r)[i] (h.list.set h.at_ e)[i] := by
      by_cases hi : h.at_ = i
      · subst hi
        rw [List.getElem_set_self, List.getElem_set_self]; exact he
      · rw [List.getElem_set_ne hi, List.getElem_set_ne hi]
        exact H.each i _ _
    exact hh.chg hc (fun k _ x => .inl (.inr (.inl x))) (fun _ _ x => x)
  · rcases List.mem_or_eq_of_mem_set hx with a | rfl
    · exact H.msgs x a
    · exact hm
/-- The cells of the current entry in memory. -/
theorem HiAt.entCells (H : HiAt w0 w b h vl vs rs) : ∃ g off cl r pn nn cn pp np cp, vl = .slice (some ⟨g, off, none⟩) rs.length cl ∧ rs.length ≤ cl ∧ rs[h.at_]? = some r ∧ r = ⟨(curE h).id, (curE h).page, (curE h).url, (curE h).title, .slice pn nn cn, .slice pp np cp, (curE h).x, (curE h).y⟩ ∧ EntAt (Off w0 b vl vs) w r (curE h) ∧ (∃ cur, w.heap[g]? = some (.cells cur 34 (0, 0))) ∧
    ∀ j u, r.cells[j]? = some u → j < 8 → w.cell? ⟨g, off + h.at_ * 8 + j, none⟩ = some u := by
  have hal : h.at_ < rs.length := by rw [H.len]; exact H.ok
  have hee : h.list[h.at_]'H.ok = curE h := by have := curE_get h H.ok; rw [List.getElem?_eq_getElem H.ok] at this; exact Option.some.inj this
  have hea := H.each h.at_ hal H.ok
  rw [hee] at hea
  obtain ⟨g, off, cl, rfl, hcl, -⟩ := H.row.addr (by omega)
  obtain ⟨⟨pn, nn, cn, hvn⟩, pp, np, cp, hvp⟩ := hea.msg.vals
  refine ⟨g, off, cl, rs[h.at_], pn, nn, cn, pp, np, cp, rfl, hcl, List.getElem?_eq_getElem hal, ?_, hea, ?_, fun j u hu hj => ?_⟩
  · rw [← hvn, ← hvp, ← hea.id, ← hea.page, ← hea.url, ← hea.title, ← hea.x, ← hea.y]
  · rcases H.row.2 with ⟨hv, -⟩ | ⟨g', off', cap', cur, hv, hg, -⟩
    · cases hv
    · simp only [Value.slice.injEq, Option.some.injEq, Addr.mk.injEq] at hv
      obtain ⟨⟨rfl, -, -⟩, -, -⟩ := hv
      exact ⟨cur, hg⟩
  · rw [Nat.add_assoc]
    exact H.row.cellAt (h.at_ * 8 + j) u (by rw [flat_get _ 8 EntR.len rs h.at_ j hal hj]; exact hu)
end
end Go.Proofs.YtiecgbmeobpomaaDoor
namespace Go.Proofs.YtiecgbmeobpomaaDoor
open Go.RowKit
set_option linter.unusedVariables false
set_option linter.unusedSimpArgs false

theorem flatE_edit {rs : List EntR} {r r' : EntR} {at_ c : Nat} {zs : List Value} (hr : rs[at_]? = some r) (hc : c + zs.length ≤ 8) (he : r'.cells = r.cells.take c ++ zs ++ r.cells.drop (c + zs.length)) :
    (rs.flatMap EntR.cells).take (at_ * 8 + c) ++ zs ++ (rs.flatMap EntR.cells).drop (at_ * 8 + c + zs.length) = (rs.set at_ r').flatMap EntR.cells := by
  obtain ⟨hal, hg⟩ := List.getElem?_eq_some_iff.1 hr
  have hl8 : r.cells.length = 8 := EntR.len r
  have hd : (rs.flatMap EntR.cells).drop (at_ * 8) = r.cells ++ (rs.flatMap EntR.cells).drop (at_ * 8 + 8) := by
    rw [flatE_drop, show at_ * 8 + 8 = (at_ + 1) * 8 by omega, flatE_drop, List.drop_eq_getElem_cons hal, List.flatMap_cons, hg]
  rw [← flatE_set r' rs at_ hal, he, List.take_add, hd, List.take_append_of_le_length (by omega), show at_ * 8 + c + zs.length = at_ * 8 + (c + zs.length) by omega, ← List.drop_drop, hd, List.drop_append_of_le_length (by omega)]
  simp only [List.append_assoc]
theorem cell_lt_block {w : World} {g i T : Nat} {c : Array Value} {f : Nat × Nat} {u : Value} (h : w.heap[g]? = some (.cells c T f)) (hc : w.cell? ⟨g, i, none⟩ = some u) : i < c.size := by
  by_cases hi : i < c.size
  · exact hi
  · exfalso
    simp [World.cell?, h, hi] at hc
set_option maxHeartbeats 6400000 in
set_option maxRecDepth 100000 in
theorem name_any (w0 : Past) (w : World) (b : Nat) (h : Hist) (vl vs : Value) (rs : List EntR) (H : HiAt w0 w b h vl vs rs) (t : ByteArray) :
    Calls Tryd.prog 28 #[.pointer (some ⟨b, 0, none⟩), .string t] w fun z w' => z = .returned (.tuple #[]) ∧ OpX w0 w b (Mut b vl vs) (nameM h t) w' := by
  obtain ⟨g, off, cl, r, pn, nn, cn, pp, np, cp, rfl, hcl, hr, hre, hea, ⟨curA, hgA⟩, hcell⟩ := H.entCells
  have HH := Lib.hid H
  have d0 := cell_of_block (i := 0) H.box rfl
  have d1 := cell_of_block (i := 1) H.box rfl
  simp only [List.getElem_toArray, List.getElem_cons_zero, List.getElem_cons_succ] at d0 d1
  have HEA := Lib.hid hea
  have HCL := Lib.hid hcell
  have HGA := Lib.hid hgA
  have HRE := Lib.hid hre
  have HRR := Lib.hid hr
  have a0 : (0 : Int) ≤ (h.at_ : Int) := by omega
  have a1 : (h.at_ : Int) < (rs.length : Int) := by have := H.ok; have := H.len; omega
  have HAT : Hid (h.at_ + 1 ≤ rs.length) := Lib.hid (by have := H.ok; have := H.len; omega)
  have HR100 : Hid (rs.length ≤ 100) := Lib.hid (by have := H.few; have := H.len; omega)
  have HMS : Hid (MsgOk (curE h).msg) := Lib.hid (H.msgs _ (curE_mem h H.ok))
  clear hre hea hcell hgA hr H hcl
  have HAE := Lib.hid (rfl : h.at_ = h.at_)
  generalize hat : h.at_ = at_ at a0 a1 d1 HAT HCL HRR ⊢
  have HHAT := Lib.hid hat
  clear hat HAE
  go_enter Tryd.func28, Tryd.ntmps28
  go_upto_region 0 with fail
  go_quiet (fail)
  go_upto_region 1 with fail
  have HC4 := Lib.hid (Chg.drewN (fun _ => False) w nq)
  generalize w.drewN nq = w4 at *
  have HS0 : Hid (w4.cell? ⟨b, 0, none⟩ = some (.slice (some ⟨g, off, none⟩) rs.length cl) ∧ w4.cell? ⟨b, 1, none⟩ = some (.int .i64 (at_ : Int))) := Lib.hid ⟨HC4.out.cell d0, HC4.out.cell d1⟩
  clear d0 d1
  refine wp_region_held_split 11 (fun w' => w'.cell? ⟨b, 0, none⟩ = some (.slice (some ⟨g, off, none⟩) rs.length cl) ∧ w'.cell? ⟨b, 1, none⟩ = some (.int .i64 (at_ : Int))) (by kernel_rfl) (by kernel_rfl) ?_ (fun hHeld => ?_)
  · (first | exact HS0.out | exact HKS.out _ (Chg.refl _ _))
  simp only [List.take_succ_cons, List.take_zero]
  have HKS : Hid (∀ W, Chg (fun _ => False) w4.drew W → W.cell? ⟨b, 0, none⟩ = some (.slice (some ⟨g, off, none⟩) rs.length cl) ∧ W.cell? ⟨b, 1, none⟩ = some (.int .i64 (at_ : Int))) := Lib.hid (fun W hc => ⟨hc.cell HS0.out.1, hc.cell HS0.out.2⟩)
  have HWD : Hid (Chg (fun _ => False) w4 w4.drew) := Lib.hid (Chg.refl _ w4).drewR
  generalize w4.drew = wD at *
  have HCD := Lib.hid (HC4.out.trans' HWD.out)
  have hgD := HCD.out.keep HGA.out (fun x => x)
  have ce0 : wD.cell? ⟨g, off + at_ * 8 + 3, none⟩ = some (.string (curE h).title) := by
    have h1 := HCL.out 3 _ (by rw [HRE.out]; rfl) (by omega)
    have h2 := HCD.out.cell h1
    exact h2
  have fr0 : wD.frozen? ⟨g, off + at_ * 8 + 3, none⟩ = false := frozen_of_block hgD
  refine wpAnyH_take (i := 0) (v := ?_) rfl (by kernel_rfl) (by kernel_rfl) (by kernel_rfl) (fun _ _ _ h => h) (Or.inl ⟨by rfl, ?_⟩) (by assumption) ?_
  rotate_left
  · (intro wq hSw; (try dsimp only at hSw); go_simp; (try with_reducible rfl))
  simp only [Act.put, List.getElem_toArray, List.getElem_cons_zero, List.getElem_cons_succ, List.setIfInBounds_toArray, List.set_cons_zero, List.set_cons_succ]
  refine wpAnyH_take (i := 1) (v := ?_) rfl (by kernel_rfl) (by kernel_rfl) (by kernel_rfl) (fun _ _ _ h => h) (Or.inl ⟨by rfl, ?_⟩) (by assumption) ?_
  rotate_left
  · (intro wq hSw; (try dsimp only at hSw); go_simp; (try with_reducible rfl))
  simp only [Act.put, List.getElem_toArray, List.getElem_cons_zero, List.getElem_cons_succ, List.setIfInBounds_toArray, List.set_cons_zero, List.set_cons_succ]
  refine wpAnyH_take (i := 2) (v := ?_) rfl (by kernel_rfl) (by kernel_rfl) (by kernel_rfl) (fun _ _ _ h => h) (Or.inl ⟨by rfl, ?_⟩) (by assumption) ?_
  rotate_left
  · (intro wq hSw; (try dsimp only at hSw); go_simp; (try with_reducible rfl))
  simp only [Act.put, List.getElem_toArray, List.getElem_cons_zero, List.getElem_cons_succ, List.setIfInBounds_toArray, List.set_cons_zero, List.set_cons_succ]
  refine wpAnyH_take (i := 3) (v := ?_) rfl (by kernel_rfl) (by kernel_rfl) (by kernel_rfl) (fun _ _ _ h => h) (Or.inl ⟨by rfl, ?_⟩) (by assumption) ?_
  rotate_left
  · (intro wq hSw; (try dsimp only at hSw); go_simp; (try with_reducible rfl))
  simp only [Act.put, List.getElem_toArray, List.getElem_cons_zero, List.getElem_cons_succ, List.setIfInBounds_toArray, List.set_cons_zero, List.set_cons_succ]
  refine wpAnyH_take (i := 4) (v := ?_) rfl (by kernel_rfl) (by kernel_rfl) (by kernel_rfl) (fun _ _ _ h => h) (Or.inl ⟨by rfl, ?_⟩) (by assumption) ?_
  rotate_left
  · (intro wq hSw; (try dsimp only at hSw); go_simp; (try with_reducible rfl))
  simp only [Act.put, List.getElem_toArray, List.getElem_cons_zero, List.getElem_cons_succ, List.setIfInBounds_toArray, List.set_cons_zero, List.set_cons_succ]
  refine wpAnyH_take (i := 5) (v := ?_) rfl (by kernel_rfl) (by kernel_rfl) (by kernel_rfl) (fun _ _ _ h => h) (Or.inl ⟨by rfl, ?_⟩) (by assumption) ?_
  rotate_left
  · (intro wq hSw; (try dsimp only at hSw); go_simp; (try with_reducible rfl))
  simp only [Act.put, List.getElem_toArray, List.getElem_cons_zero, List.getElem_cons_succ, List.setIfInBounds_toArray, List.set_cons_zero, List.set_cons_succ]
  refine wpAnyH_take (i := 6) (v := ?_) rfl (by kernel_rfl) (by kernel_rfl) (by kernel_rfl) (fun _ _ _ h => h) (Or.inl ⟨by rfl, ?_⟩) (by assumption) ?_
  rotate_left
  · (intro wq hSw; (try dsimp only at hSw); go_simp; (try with_reducible rfl))
  simp only [Act.put, List.getElem_toArray, List.getElem_cons_zero, List.getElem_cons_succ, List.setIfInBounds_toArray, List.set_cons_zero, List.set_cons_succ]
  refine wpAnyH_take (i := 7) (v := ?_) rfl (by kernel_rfl) (by kernel_rfl) (by kernel_rfl) (fun _ _ _ h => h) (Or.inl ⟨by rfl, ?_⟩) (by assumption) ?_
  rotate_left
  · (intro wq hSw; (try dsimp only at hSw); go_simp; (try with_reducible rfl))
  simp only [Act.put, List.getElem_toArray, List.getElem_cons_zero, List.getElem_cons_succ, List.setIfInBounds_toArray, List.set_cons_zero, List.set_cons_succ]
  refine wpAnyH_take (i := 8) (v := ?_) rfl (by kernel_rfl) (by kernel_rfl) (by kernel_rfl) (fun _ _ _ h => h) (Or.inl ⟨by rfl, ?_⟩) (by assumption) ?_
  rotate_left
  · (intro wq hSw; (try dsimp only at hSw); go_simp; (try with_reducible rfl))
  simp only [Act.put, List.getElem_toArray, List.getElem_cons_zero, List.getElem_cons_succ, List.setIfInBounds_toArray, List.set_cons_zero, List.set_cons_succ]
  refine wpAnyH_take (i := 9) (v := ?_) rfl (by kernel_rfl) (by kernel_rfl) (by kernel_rfl) (fun _ _ _ h => h) (Or.inl ⟨by rfl, ?_⟩) (by assumption) ?_
  rotate_left
  · (intro wq hSw; (try dsimp only at hSw); go_simp; (try with_reducible rfl))
  simp only [Act.put, List.getElem_toArray, List.getElem_cons_zero, List.getElem_cons_succ, List.setIfInBounds_toArray, List.set_cons_zero, List.set_cons_succ]
  refine wpAnyH_take (i := 10) (v := ?_) rfl (by kernel_rfl) (by kernel_rfl) (by kernel_rfl) (fun _ _ _ h => h) (Or.inl ⟨by rfl, ?_⟩) (by assumption) ?_
  rotate_left
  · (intro wq hSw; (try dsimp only at hSw); go_simp; (try with_reducible rfl))
  simp only [Act.put, List.getElem_toArray, List.getElem_cons_zero, List.getElem_cons_succ, List.setIfInBounds_toArray, List.set_cons_zero, List.set_cons_succ]
  refine wpAnyH_done (by kernel_rfl) ?_ _
  change wpList _ _ _ _ _ _
  simp only [List.drop_succ_cons, List.drop_zero]
  clear hHeld
  go_wp2_with fail
  go_end0
  have hal : at_ < rs.length := HAT.out
  have hrow := put_cellsN (i := at_ * 8 + 3) (zs := [.string t]) (HH.out.row.chg HCD.out (fun _ _ x => x)) (by simp only [List.length_cons, List.length_nil]; have := HAT.out; omega)
  rw [← Nat.add_assoc] at hrow
  have hch : Chg (fun k => k = g) w (wD.setCells g (off + at_ * 8 + 3) [.string t]) := HCD.out.trans (Chg.setCells (b := g) [.string t] wD (off + at_ * 8 + 3)) (fun _ _ x => x.elim) (fun _ _ x => x)
  rw [flatE_edit (r' := { r with title := t }) HRR.out (by simp only [List.length_cons, List.length_nil]; omega) (by rw [HRE.out]; rfl)] at hrow
  have hea : EntAt (Off w0 b (.slice (some ⟨g, off, none⟩) rs.length cl) vs) wD r (curE h) := HEA.out.chg HCD.out (fun _ _ x => x.elim) (fun _ _ x => x)
  have hh := HH.out.still HCD.out
  have hed := hh.edited (w1 := wD.setCells g (off + at_ * 8 + 3) [.string t]) { r with title := t } { curE h with title := t } ((Chg.setCells (b := g) [.string t] wD (off + at_ * 8 + 3)).mono (fun k _ e => by subst e; rfl)) (by rw [HHAT.out]; exact hrow) ⟨hea.id, hea.page, hea.url, rfl, hea.msg, hea.x, hea.y⟩ HMS.out
  refine ⟨rfl, _, _, _, hed, hch.mono (fun k _ e => .inr (.inl (by subst e; rfl))), fun k _ x => x⟩
set_option maxHeartbeats 6400000 in
set_option maxRecDepth 100000 in
theorem scroll_any (w0 : Past) (w : World) (b : Nat) (h : Hist) (vl vs : Value) (rs : List EntR) (H : HiAt w0 w b h vl vs rs) (x y : Int) :
    Calls Tryd.prog 27 #[.pointer (some ⟨b, 0, none⟩), .int .i64 x, .int .i64 y] w fun z w' => z = .returned (.tuple #[]) ∧ OpX w0 w b (Mut b vl vs) (scrollM h x y) w' := by
  obtain ⟨g, off, cl, r, pn, nn, cn, pp, np, cp, rfl, hcl, hr, hre, hea, ⟨curA, hgA⟩, hcell⟩ := H.entCells
  have HH := Lib.hid H
  have d0 := cell_of_block (i := 0) H.box rfl
  have d1 := cell_of_block (i := 1) H.box rfl
  simp only [List.getElem_toArray, List.getElem_cons_zero, List.getElem_cons_succ] at d0 d1
  have HEA := Lib.hid hea
  have HCL := Lib.hid hcell
  have HGA := Lib.hid hgA
  have HRE := Lib.hid hre
  have HRR := Lib.hid hr
  have a0 : (0 : Int) ≤ (h.at_ : Int) := by omega
  have a1 : (h.at_ : Int) < (rs.length : Int) := by have := H.ok; have := H.len; omega
  have HAT : Hid (h.at_ + 1 ≤ rs.length) := Lib.hid (by have := H.ok; have := H.len; omega)
  have HR100 : Hid (rs.length ≤ 100) := Lib.hid (by have := H.few; have := H.len; omega)
  have HMS : Hid (MsgOk (curE h).msg) := Lib.hid (H.msgs _ (curE_mem h H.ok))
  clear hre hea hcell hgA hr H hcl
  have HAE := Lib.hid (rfl : h.at_ = h.at_)
  generalize hat : h.at_ = at_ at a0 a1 d1 HAT HCL HRR ⊢
  have HHAT := Lib.hid hat
  clear hat HAE
  go_enter Tryd.func27, Tryd.ntmps27
  go_upto_region 0 with fail
  go_quiet (fail)
  go_upto_region 1 with fail
  have HC4 := Lib.hid (Chg.drewN (fun _ => False) w nq)
  generalize w.drewN nq = w4 at *
  have HS0 : Hid (w4.cell? ⟨b, 0, none⟩ = some (.slice (some ⟨g, off, none⟩) rs.length cl) ∧ w4.cell? ⟨b, 1, none⟩ = some (.int .i64 (at_ : Int))) := Lib.hid ⟨HC4.out.cell d0, HC4.out.cell d1⟩
  clear d0 d1
  refine wp_region_held_split 23 (fun w' => w'.cell? ⟨b, 0, none⟩ = some (.slice (some ⟨g, off, none⟩) rs.length cl) ∧ w'.cell? ⟨b, 1, none⟩ = some (.int .i64 (at_ : Int))) (by kernel_rfl) (by kernel_rfl) ?_ (fun hHeld => ?_)
  · (first | exact HS0.out | exact HKS.out _ (Chg.refl _ _) | exact zc1 | exact zc2)
  simp only [List.take_succ_cons, List.take_zero]
  have HKS : Hid (∀ W, Chg (fun _ => False) w4.drew W → W.cell? ⟨b, 0, none⟩ = some (.slice (some ⟨g, off, none⟩) rs.length cl) ∧ W.cell? ⟨b, 1, none⟩ = some (.int .i64 (at_ : Int))) := Lib.hid (fun W hc => ⟨hc.cell HS0.out.1, hc.cell HS0.out.2⟩)
  have HWD : Hid (Chg (fun _ => False) w4 w4.drew) := Lib.hid (Chg.refl _ w4).drewR
  generalize w4.drew = wD at *
  have HCD := Lib.hid (HC4.out.trans' HWD.out)
  have hgD := HCD.out.keep HGA.out (fun x => x)
  have ce0 : wD.cell? ⟨g, off + at_ * 8 + 6, none⟩ = some (.int .i64 (curE h).x) := by
    have h1 := HCL.out 6 _ (by rw [HRE.out]; rfl) (by omega)
    have h2 := HCD.out.cell h1
    exact h2
  have fr0 : wD.frozen? ⟨g, off + at_ * 8 + 6, none⟩ = false := frozen_of_block hgD
  have hg2 := setCell_block (i := off + at_ * 8 + 6) (.int .i64 x) hgD
  have fr1 : (wD.setCell ⟨g, off + at_ * 8 + 6, none⟩ (.int .i64 x)).frozen? ⟨g, off + at_ * 8 + 7, none⟩ = false := frozen_of_block hg2
  obtain ⟨u1, ce1⟩ : ∃ u, (wD.setCell ⟨g, off + at_ * 8 + 6, none⟩ (.int .i64 x)).cell? ⟨g, off + at_ * 8 + 7, none⟩ = some u := by
    have h1 := HCL.out 7 _ (by rw [HRE.out]; rfl) (by omega)
    have h2 := HCD.out.cell h1
    have h3 := cell_lt_block hgD h2
    exact ⟨_, cell_of_block hg2 (Array.getElem?_eq_getElem (by rw [Array.size_setIfInBounds]; exact h3))⟩
  have hgb : ¬ b = g := fun e => HH.out.lb (by subst e; rfl)
  have zc1 : (wD.setCell ⟨g, off + at_ * 8 + 6, none⟩ (.int .i64 x)).cell? ⟨b, 0, none⟩ = some (.slice (some ⟨g, off, none⟩) rs.length cl) ∧ (wD.setCell ⟨g, off + at_ * 8 + 6, none⟩ (.int .i64 x)).cell? ⟨b, 1, none⟩ = some (.int .i64 (at_ : Int)) := ⟨(Chg.setCell wD ⟨g, off + at_ * 8 + 6, none⟩ _).cellS (HWD.out.cell HS0.out.1) hgb, (Chg.setCell wD ⟨g, off + at_ * 8 + 6, none⟩ _).cellS (HWD.out.cell HS0.out.2) hgb⟩
  have zc2 : ((wD.setCell ⟨g, off + at_ * 8 + 6, none⟩ (.int .i64 x)).setCell ⟨g, off + at_ * 8 + 7, none⟩ (.int .i64 y)).cell? ⟨b, 0, none⟩ = some (.slice (some ⟨g, off, none⟩) rs.length cl) ∧ ((wD.setCell ⟨g, off + at_ * 8 + 6, none⟩ (.int .i64 x)).setCell ⟨g, off + at_ * 8 + 7, none⟩ (.int .i64 y)).cell? ⟨b, 1, none⟩ = some (.int .i64 (at_ : Int)) := ⟨(Chg.setCell (wD.setCell ⟨g, off + at_ * 8 + 6, none⟩ (.int .i64 x)) ⟨g, off + at_ * 8 + 7, none⟩ _).cellS zc1.1 hgb, (Chg.setCell (wD.setCell ⟨g, off + at_ * 8 + 6, none⟩ (.int .i64 x)) ⟨g, off + at_ * 8 + 7, none⟩ _).cellS zc1.2 hgb⟩
  refine wpAnyH_take (i := 0) (v := ?_) rfl (by kernel_rfl) (by kernel_rfl) (by kernel_rfl) (fun _ _ _ h => h) (Or.inl ⟨by rfl, ?_⟩) (by assumption) ?_
  rotate_left
  · (intro wq hSw; (try dsimp only at hSw); go_simp; (try with_reducible rfl))
  simp only [Act.put, List.getElem_toArray, List.getElem_cons_zero, List.getElem_cons_succ, List.setIfInBounds_toArray, List.set_cons_zero, List.set_cons_succ]
  refine wpAnyH_take (i := 1) (v := ?_) rfl (by kernel_rfl) (by kernel_rfl) (by kernel_rfl) (fun _ _ _ h => h) (Or.inl ⟨by rfl, ?_⟩) (by assumption) ?_
  rotate_left
  · (intro wq hSw; (try dsimp only at hSw); go_simp; (try with_reducible rfl))
  simp only [Act.put, List.getElem_toArray, List.getElem_cons_zero, List.getElem_cons_succ, List.setIfInBounds_toArray, List.set_cons_zero, List.set_cons_succ]
  refine wpAnyH_take (i := 2) (v := ?_) rfl (by kernel_rfl) (by kernel_rfl) (by kernel_rfl) (fun _ _ _ h => h) (Or.inl ⟨by rfl, ?_⟩) (by assumption) ?_
  rotate_left
  · (intro wq hSw; (try dsimp only at hSw); go_simp; (try with_reducible rfl))
  simp only [Act.put, List.getElem_toArray, List.getElem_cons_zero, List.getElem_cons_succ, List.setIfInBounds_toArray, List.set_cons_zero, List.set_cons_succ]
  refine wpAnyH_take (i := 3) (v := ?_) rfl (by kernel_rfl) (by kernel_rfl) (by kernel_rfl) (fun _ _ _ h => h) (Or.inl ⟨by rfl, ?_⟩) (by assumption) ?_
  rotate_left
  · (intro wq hSw; (try dsimp only at hSw); go_simp; (try with_reducible rfl))
  simp only [Act.put, List.getElem_toArray, List.getElem_cons_zero, List.getElem_cons_succ, List.setIfInBounds_toArray, List.set_cons_zero, List.set_cons_succ]
  refine wpAnyH_take (i := 4) (v := ?_) rfl (by kernel_rfl) (by kernel_rfl) (by kernel_rfl) (fun _ _ _ h => h) (Or.inl ⟨by rfl, ?_⟩) (by assumption) ?_
  rotate_left
  · (intro wq hSw; (try dsimp only at hSw); go_simp; (try with_reducible rfl))
  simp only [Act.put, List.getElem_toArray, List.getElem_cons_zero, List.getElem_cons_succ, List.setIfInBounds_toArray, List.set_cons_zero, List.set_cons_succ]
  refine wpAnyH_take (i := 5) (v := ?_) rfl (by kernel_rfl) (by kernel_rfl) (by kernel_rfl) (fun _ _ _ h => h) (Or.inl ⟨by rfl, ?_⟩) (by assumption) ?_
  rotate_left
  · (intro wq hSw; (try dsimp only at hSw); go_simp; (try with_reducible rfl))
  simp only [Act.put, List.getElem_toArray, List.getElem_cons_zero, List.getElem_cons_succ, List.setIfInBounds_toArray, List.set_cons_zero, List.set_cons_succ]
  refine wpAnyH_take (i := 6) (v := ?_) rfl (by kernel_rfl) (by kernel_rfl) (by kernel_rfl) (fun _ _ _ h => h) (Or.inl ⟨by rfl, ?_⟩) (by assumption) ?_
  rotate_left
  · (intro wq hSw; (try dsimp only at hSw); go_simp; (try with_reducible rfl))
  simp only [Act.put, List.getElem_toArray, List.getElem_cons_zero, List.getElem_cons_succ, List.setIfInBounds_toArray, List.set_cons_zero, List.set_cons_succ]
  refine wpAnyH_take (i := 7) (v := ?_) rfl (by kernel_rfl) (by kernel_rfl) (by kernel_rfl) (fun _ _ _ h => h) (Or.inl ⟨by rfl, ?_⟩) (by assumption) ?_
  rotate_left
  · (intro wq hSw; (try dsimp only at hSw); go_simp; (try with_reducible rfl))
  simp only [Act.put, List.getElem_toArray, List.getElem_cons_zero, List.getElem_cons_succ, List.setIfInBounds_toArray, List.set_cons_zero, List.set_cons_succ]
  refine wpAnyH_take (i := 8) (v := ?_) rfl (by kernel_rfl) (by kernel_rfl) (by kernel_rfl) (fun _ _ _ h => h) (Or.inl ⟨by rfl, ?_⟩) (by assumption) ?_
  rotate_left
  · (intro wq hSw; (try dsimp only at hSw); go_simp; (try with_reducible rfl))
  simp only [Act.put, List.getElem_toArray, List.getElem_cons_zero, List.getElem_cons_succ, List.setIfInBounds_toArray, List.set_cons_zero, List.set_cons_succ]
  refine wpAnyH_take (i := 9) (v := ?_) rfl (by kernel_rfl) (by kernel_rfl) (by kernel_rfl) (fun _ _ _ h => h) (Or.inl ⟨by rfl, ?_⟩) (by assumption) ?_
  rotate_left
  · (intro wq hSw; (try dsimp only at hSw); go_simp; (try with_reducible rfl))
  simp only [Act.put, List.getElem_toArray, List.getElem_cons_zero, List.getElem_cons_succ, List.setIfInBounds_toArray, List.set_cons_zero, List.set_cons_succ]
  refine wpAnyH_take (i := 10) (v := ?_) rfl (by kernel_rfl) (by kernel_rfl) (by kernel_rfl) (fun _ _ _ h => h) (Or.inl ⟨by rfl, ?_⟩) (by assumption) ?_
  rotate_left
  · (intro wq hSw; (try dsimp only at hSw); go_simp; (try with_reducible rfl))
  simp only [Act.put, List.getElem_toArray, List.getElem_cons_zero, List.getElem_cons_succ, List.setIfInBounds_toArray, List.set_cons_zero, List.set_cons_succ]
  refine wpAnyH_take (i := 11) (v := ?_) rfl (by kernel_rfl) (by kernel_rfl) (by kernel_rfl) (fun _ _ _ h => h) (Or.inl ⟨by rfl, ?_⟩) (by assumption) ?_
  rotate_left
  · (intro wq hSw; (try dsimp only at hSw); go_simp; (try with_reducible rfl))
  simp only [Act.put, List.getElem_toArray, List.getElem_cons_zero, List.getElem_cons_succ, List.setIfInBounds_toArray, List.set_cons_zero, List.set_cons_succ]
  refine wpAnyH_take (i := 12) (v := ?_) rfl (by kernel_rfl) (by kernel_rfl) (by kernel_rfl) (fun _ _ _ h => h) (Or.inl ⟨by rfl, ?_⟩) (by assumption) ?_
  rotate_left
  · (intro wq hSw; (try dsimp only at hSw); go_simp; (try with_reducible rfl))
  simp only [Act.put, List.getElem_toArray, List.getElem_cons_zero, List.getElem_cons_succ, List.setIfInBounds_toArray, List.set_cons_zero, List.set_cons_succ]
  refine wpAnyH_take (i := 13) (v := ?_) rfl (by kernel_rfl) (by kernel_rfl) (by kernel_rfl) (fun _ _ _ h => h) (Or.inl ⟨by rfl, ?_⟩) (by assumption) ?_
  rotate_left
  · (intro wq hSw; (try dsimp only at hSw); go_simp; (try with_reducible rfl))
  simp only [Act.put, List.getElem_toArray, List.getElem_cons_zero, List.getElem_cons_succ, List.setIfInBounds_toArray, List.set_cons_zero, List.set_cons_succ]
  refine wpAnyH_take (i := 14) (v := ?_) rfl (by kernel_rfl) (by kernel_rfl) (by kernel_rfl) (fun _ _ _ h => h) (Or.inl ⟨by rfl, ?_⟩) (by assumption) ?_
  rotate_left
  · (intro wq hSw; (try dsimp only at hSw); go_simp; (try with_reducible rfl))
  simp only [Act.put, List.getElem_toArray, List.getElem_cons_zero, List.getElem_cons_succ, List.setIfInBounds_toArray, List.set_cons_zero, List.set_cons_succ]
  refine wpAnyH_take (i := 15) (v := ?_) rfl (by kernel_rfl) (by kernel_rfl) (by kernel_rfl) (fun _ _ _ h => h) (Or.inl ⟨by rfl, ?_⟩) (by assumption) ?_
  rotate_left
  · (intro wq hSw; (try dsimp only at hSw); go_simp; (try with_reducible rfl))
  simp only [Act.put, List.getElem_toArray, List.getElem_cons_zero, List.getElem_cons_succ, List.setIfInBounds_toArray, List.set_cons_zero, List.set_cons_succ]
  refine wpAnyH_take (i := 16) (v := ?_) rfl (by kernel_rfl) (by kernel_rfl) (by kernel_rfl) (fun _ _ _ h => h) (Or.inl ⟨by rfl, ?_⟩) (by assumption) ?_
  rotate_left
  · (intro wq hSw; (try dsimp only at hSw); go_simp; (try with_reducible rfl))
  simp only [Act.put, List.getElem_toArray, List.getElem_cons_zero, List.getElem_cons_succ, List.setIfInBounds_toArray, List.set_cons_zero, List.set_cons_succ]
  refine wpAnyH_take (i := 17) (v := ?_) rfl (by kernel_rfl) (by kernel_rfl) (by kernel_rfl) (fun _ _ _ h => h) (Or.inl ⟨by rfl, ?_⟩) (by assumption) ?_
  rotate_left
  · (intro wq hSw; (try dsimp only at hSw); go_simp; (try with_reducible rfl))
  simp only [Act.put, List.getElem_toArray, List.getElem_cons_zero, List.getElem_cons_succ, List.setIfInBounds_toArray, List.set_cons_zero, List.set_cons_succ]
  refine wpAnyH_take (i := 18) (v := ?_) rfl (by kernel_rfl) (by kernel_rfl) (by kernel_rfl) (fun _ _ _ h => h) (Or.inl ⟨by rfl, ?_⟩) (by assumption) ?_
  rotate_left
  · (intro wq hSw; (try dsimp only at hSw); go_simp; (try with_reducible rfl))
  simp only [Act.put, List.getElem_toArray, List.getElem_cons_zero, List.getElem_cons_succ, List.setIfInBounds_toArray, List.set_cons_zero, List.set_cons_succ]
  refine wpAnyH_take (i := 19) (v := ?_) rfl (by kernel_rfl) (by kernel_rfl) (by kernel_rfl) (fun _ _ _ h => h) (Or.inl ⟨by rfl, ?_⟩) (by assumption) ?_
  rotate_left
  · (intro wq hSw; (try dsimp only at hSw); go_simp; (try with_reducible rfl))
  simp only [Act.put, List.getElem_toArray, List.getElem_cons_zero, List.getElem_cons_succ, List.setIfInBounds_toArray, List.set_cons_zero, List.set_cons_succ]
  refine wpAnyH_ready (rs := [20]) (by kernel_rfl) (by simp) ?_
  refine AllReadyH.cons (by simp only [List.getElem?_toArray, List.getElem?_cons_succ, List.getElem?_cons_zero]; rfl) (fun K hK => ?_) AllReadyH.nil
  go_simp
  refine hK.out _ _ ?_ (fun hHeld => ?_)
  · (first | exact HS0.out | exact HKS.out _ (Chg.refl _ _) | exact zc1 | exact zc2)
  clear hK K
  (try simp only [Act.put, List.getElem_toArray, List.getElem_cons_zero, List.getElem_cons_succ, List.setIfInBounds_toArray, List.set_cons_zero, List.set_cons_succ])
  refine wpAnyH_take (i := 21) (v := ?_) rfl (by kernel_rfl) (by kernel_rfl) (by kernel_rfl) (fun _ _ _ h => h) (Or.inl ⟨by rfl, ?_⟩) (by assumption) ?_
  rotate_left
  · (intro wq hSw; (try dsimp only at hSw); go_simp; (try with_reducible rfl))
  simp only [Act.put, List.getElem_toArray, List.getElem_cons_zero, List.getElem_cons_succ, List.setIfInBounds_toArray, List.set_cons_zero, List.set_cons_succ]
  refine wpAnyH_take (i := 22) (v := ?_) rfl (by kernel_rfl) (by kernel_rfl) (by kernel_rfl) (fun _ _ _ h => h) (Or.inl ⟨by rfl, ?_⟩) (by assumption) ?_
  rotate_left
  · (intro wq hSw; (try dsimp only at hSw); go_simp; (try with_reducible rfl))
  simp only [Act.put, List.getElem_toArray, List.getElem_cons_zero, List.getElem_cons_succ, List.setIfInBounds_toArray, List.set_cons_zero, List.set_cons_succ]
  refine wpAnyH_done (by kernel_rfl) ?_ _
  change wpList _ _ _ _ _ _
  simp only [List.drop_succ_cons, List.drop_zero]
  clear hHeld
  go_wp2_with fail
  go_end0
  have hal : at_ < rs.length := HAT.out
  have hrow := put_cellsN (i := at_ * 8 + 6) (zs := [.int .i64 x, .int .i64 y]) (HH.out.row.chg HCD.out (fun _ _ x => x)) (by simp only [List.length_cons, List.length_nil]; have := HAT.out; omega)
  rw [← Nat.add_assoc] at hrow
  have hch : Chg (fun k => k = g) w (wD.setCells g (off + at_ * 8 + 6) [.int .i64 x, .int .i64 y]) := HCD.out.trans (Chg.setCells (b := g) [.int .i64 x, .int .i64 y] wD (off + at_ * 8 + 6)) (fun _ _ x => x.elim) (fun _ _ x => x)
  rw [flatE_edit (r' := { r with x := x, y := y }) HRR.out (by simp only [List.length_cons, List.length_nil]; omega) (by rw [HRE.out]; rfl)] at hrow
  have hea : EntAt (Off w0 b (.slice (some ⟨g, off, none⟩) rs.length cl) vs) wD r (curE h) := HEA.out.chg HCD.out (fun _ _ x => x.elim) (fun _ _ x => x)
  have hh := HH.out.still HCD.out
  have hed := hh.edited (w1 := wD.setCells g (off + at_ * 8 + 6) [.int .i64 x, .int .i64 y]) { r with x := x, y := y } { curE h with x := x, y := y } ((Chg.setCells (b := g) [.int .i64 x, .int .i64 y] wD (off + at_ * 8 + 6)).mono (fun k _ e => by subst e; rfl)) (by rw [HHAT.out]; exact hrow) ⟨hea.id, hea.page, hea.url, hea.title, hea.msg, rfl, rfl⟩ HMS.out
  refine ⟨rfl, _, _, _, hed, hch.mono (fun k _ e => .inr (.inl (by subst e; rfl))), fun k _ x => x⟩
end Go.Proofs.YtiecgbmeobpomaaDoor
namespace Go.Proofs.YtiecgbmeobpomaaDoor
open Go.RowKit
set_option linter.unusedVariables false
set_option linter.unusedSimpArgs false

section
variable {w0 w0' : Past} {w w1 : World} {b : Nat} {h : Hist} {vl vs : Value} {rs : List EntR}
theorem HiAt.write (H : HiAt w0 w b h vl vs rs) {S : Nat → Prop} (hc : Chg S w w1) (hS : ∀ k, S k → w0.X k) (hS0 : ∀ k, S k → w0.heap.size ≤ k) : HiAt w0 w1 b h vl vs rs :=
  H.grow hc (fun k _ x => hS k x) hS0 w0.X (fun k x => ⟨.inl x, Nat.lt_of_lt_of_le (H.xl k x) hc.size⟩)
theorem HiAt.shrink (H : HiAt w0' w b h vl vs rs) (hw : w0'.toWorld = w0.toWorld) (hX : ∀ k, w0.X k → w0'.X k) : HiAt w0 w b h vl vs rs := by
  obtain ⟨u, X⟩ := w0
  obtain ⟨u', X'⟩ := w0'
  have hw : u' = u := hw
  subst hw
  exact ⟨H.box, H.row, H.slp, H.len, fun i a c => (H.each i a c).chg (Chg.refl (fun _ => False) w) (fun _ _ x => x.elim) (fun k _ x => x.elim .inl (fun y => .inr (hX k y))), H.lb, H.sb, H.ls, H.lo, H.chg, H.ok, H.few, H.msgs, fun k x => H.xl k (hX k x), fun k hk x => H.xm k hk (hX k x)⟩
/-- A new block is none of the history's. -/
theorem HiAt.beside (H : HiAt w0 w b h vl vs rs) (o : _root_.Go.Obj) : ∃ w0' : Past, w0'.toWorld = w0.toWorld ∧ (∀ k, w0'.X k ↔ w0.X k ∨ k = w.heap.size) ∧ HiAt w0' (w.alloc o) b h vl vs rs :=
  ⟨⟨w0, fun k => w0.X k ∨ k = w.heap.size⟩, rfl, fun _ => Iff.rfl, H.grow (Chg.alloc (fun _ => False) w o) (fun _ _ x => x.elim) (fun _ x => x.elim) _ (fun k x => by
    rw [World.size_alloc]
    rcases x with x | x
    · exact ⟨.inl x, by have := H.xl k x; omega⟩
    · exact ⟨.inr (by omega), by omega⟩)⟩
/-- What an operation made is none of the history's, either. -/
theorem HiAt.regrow {h' : Hist} {vs' : Value} (H : HiAt w0 w b h vl vs rs) (H' : HiAt w0 w1 b h' vl vs' rs) (hl : h'.list = h.list) (hc : Chg (Mut b vl vs) w w1) (hsub : ∀ k, Mut b vl vs' k → Mut b vl vs k) (X : Nat → Prop) (hX : ∀ k, X k → (w0.X k ∨ w.heap.size ≤ k) ∧ k < w1.heap.size) : HiAt ⟨w0, X⟩ w1 b h' vl vs' rs := by
  refine ⟨H'.box, H'.row, H'.slp, H'.len, fun i a c => ?_, H'.lb, H'.sb, H'.ls, H'.lo, H'.chg, H'.ok, H'.few, H'.msgs, fun k x => (hX k x).2, fun k hk x => (hX k x).1.elim (H'.xm k hk) (fun y => by have := H.mutLt k (hsub k hk); omega)⟩
  have hc' : i < h.list.length := by rw [← hl]; exact c
  have he : h'.list[i] = h.list[i] := List.getElem_of_eq hl c
  rw [he]
  exact (H.each i a hc').chg hc (fun k _ x => .inl x) (fun k hk x => x.elim (fun y => .inl (hsub k y)) (fun y => (hX k y).1.elim .inr (fun z => by omega)))
end
theorem run_page (id page x y : Int) (url title : ByteArray) (p q : Option Addr) (n c m d : Nat) (w : World) : (Instr.field 34 (.agg #[.int .i64 id, .int .i64 page, .string url, .string title, .slice p n c, .slice q m d, .int .i64 x, .int .i64 y]) 1).run Tryd.prog w = .ok (.int .i64 page) w := by kernel_rfl
set_option maxHeartbeats 6400000 in
set_option maxRecDepth 100000 in
theorem navigate_any (w0 : Past) (w : World) (b : Nat) (h : Hist) (vl vs : Value) (rs : List EntR) (H : HiAt w0 w b h vl vs rs) (url : ByteArray) (keep : Bool) (hl : h.list.length ≤ 60) (hsl : h.sleeping.length ≤ 900) (hnx : 0 ≤ h.next ∧ h.next ≤ 1000000) (hpg : 0 ≤ h.nextPage ∧ h.nextPage ≤ 1000000) :
    Calls Tryd.prog 22 #[.pointer (some ⟨b, 0, none⟩), .string url, .bool keep] w fun z w' => ∃ zv, z = .returned zv ∧ OpV w0 w b (Mut b vl vs) (navM h url keep) (navV h url keep) zv w' := by
  have HMLT := Lib.hid H.mutLt
  have HB0 : Hid (w0.heap.size ≤ w.heap.size) := Lib.hid H.chg.size
  obtain ⟨w06, hw6e, hx6, H1⟩ := H.beside (.cells #[.int .i64 0, .int .i64 0, .string ⟨#[]⟩, .string ⟨#[]⟩, .slice none 0 0, .slice none 0 0, .int .i64 0, .int .i64 0, .int .i64 0, .bool false, .bool false, .slice none 0 0] 40)
  have HW6E := Lib.hid hw6e
  have HX6 := Lib.hid hx6
  have HB6 := Lib.hid (alloc_block w (.cells #[.int .i64 0, .int .i64 0, .string ⟨#[]⟩, .string ⟨#[]⟩, .slice none 0 0, .slice none 0 0, .int .i64 0, .int .i64 0, .int .i64 0, .bool false, .bool false, .slice none 0 0] 40))
  have HC1 := Lib.hid (Chg.alloc (fun _ => False) w (.cells #[.int .i64 0, .int .i64 0, .string ⟨#[]⟩, .string ⟨#[]⟩, .slice none 0 0, .slice none 0 0, .int .i64 0, .int .i64 0, .int .i64 0, .bool false, .bool false, .slice none 0 0] 40))
  have HH1 := Lib.hid H1
  have HL := Lib.hid hl
  have HSL := Lib.hid hsl
  have HNX := Lib.hid hnx
  have HPG := Lib.hid hpg
  have HCU := Lib.hid (current_any w06 _ b h vl vs rs H1 (curE h) (curE_get h H.ok))
  unfold EntC at HCU
  clear H H1 hw6e hx6 hl hsl hnx hpg
  go_enter Tryd.func22, Tryd.ntmps22
  go_upto_region 1 with fail
  have HS1 := Lib.hid (World.size_alloc w (.cells #[.int .i64 0, .int .i64 0, .string ⟨#[]⟩, .string ⟨#[]⟩, .slice none 0 0, .slice none 0 0, .int .i64 0, .int .i64 0, .int .i64 0, .bool false, .bool false, .slice none 0 0] 40))
  generalize w.alloc (.cells #[.int .i64 0, .int .i64 0, .string ⟨#[]⟩, .string ⟨#[]⟩, .slice none 0 0, .slice none 0 0, .int .i64 0, .int .i64 0, .int .i64 0, .bool false, .bool false, .slice none 0 0] 40) = w1 at *
  generalize hb6 : w.heap.size = b6 at HB6 HX6 HS1 ⊢
  have HB6W := Lib.hid hb6
  clear hb6
  go_upto_region 2 with (go_at_call 19; refine HCU.out.mono ?_; rintro _ w2 ⟨vn2, vp2, rfl, hc2, hm2⟩; obtain ⟨⟨pn2, nn2, cn2, rfl⟩, pp2, np2, cp2, rfl⟩ := hm2.vals; have hpg2 := run_page (curE h).id (curE h).page (curE h).x (curE h).y (curE h).url (curE h).title pn2 pp2 nn2 cn2 np2 cp2 w2)
  have h2 := HH1.out.still hc2
  have d3 : w2.cell? ⟨b, 3, none⟩ = some (.int .i64 h.nextPage) := cell_of_block (i := 3) h2.box rfl
  have hadd := add_any w06 w2 b h vl vs rs h2 (fun k => Mut b vl vs k) (navE h url) (.slice none 0 0) (.slice none 0 0) (fun _ x => x) (MsgAt.none _ _) msgOk0 HL.out (by have := HNX.out; omega)
  unfold EntC at hadd
  rw [show (navE h url).id = 0 from rfl, show (navE h url).page = h.nextPage from rfl, show (navE h url).url = url from rfl, show (navE h url).title = ⟨#[]⟩ from rfl, show (navE h url).x = 0 from rfl, show (navE h url).y = 0 from rfl] at hadd
  have HADD := Lib.hid hadd
  have HC2 := Lib.hid (HC1.out.trans' hc2)
  have HB62 := Lib.hid (hc2.keep HB6.out (fun x => x))
  have HS2 := Lib.hid hc2.size
  clear hadd h2 hc2 hm2 HC1 HB6 HH1 HCU hpg2
  generalize hold : (curE h).page = old at *
  have HOLD := Lib.hid hold
  clear hold
  go_upto_region 3 with (go_at_call 43; refine HADD.out.mono ?_; rintro _ w3 ⟨rfl, vl3, vs3, rs3, h3, hc3, hm3⟩)
  have d3 : w3.cell? ⟨b, 3, none⟩ = some (.int .i64 h.nextPage) := cell_of_block (i := 3) h3.box rfl
  have f3 := frozen_of_block (i := 3) h3.box
  have hpg := HPG.out
  have wn : IntKind.i64.wrap (h.nextPage + 1) = h.nextPage + 1 := IntWalk.i64_in _ (by omega)
  have wn2 : wrap64 (h.nextPage + 1) = h.nextPage + 1 := IntWalk.wrap64_in _ (by omega)
  clear hpg
  go_upto_region 4 with fail
  have hb3s := setCell_block (i := 3) (.int .i64 (h.nextPage + 1)) h3.box
  have hc34 : Chg (fun k => k = b) w3 (w3.setCell ⟨b, 3, none⟩ (.int .i64 (h.nextPage + 1))) := Chg.setCell w3 ⟨b, 3, none⟩ _
  have h4 : HiAt w06 (w3.setCell ⟨b, 3, none⟩ (.int .i64 (h.nextPage + 1))) b (navH h url) vl3 vs3 rs3 := h3.nums hc34 (addM h (navE h url)).at_ (addM h (navE h url)).next (h.nextPage + 1) (by simpa using hb3s) h3.ok
  have HC4 := Lib.hid ((HC2.out.trans hc3 (fun _ _ x => x.elim) (fun _ _ x => x)).trans hc34 (fun _ _ x => x) (fun k _ e => .inl e))
  have HM3 := Lib.hid hm3
  have HB64 := Lib.hid (hc34.keep (hc3.keep HB62.out (fun x => by have := HMLT.out b6 x; have := HB6W.out; omega)) (fun e => by have := HMLT.out b (.inl rfl); have := HB6W.out; omega))
  have HS24 : Hid (w2.heap.size ≤ (w3.setCell ⟨b, 3, none⟩ (.int .i64 (h.nextPage + 1))).heap.size) := Lib.hid (Nat.le_trans hc3.size hc34.size)
  have HH4 := Lib.hid h4
  clear hb3s hc34 h3 hc3 hm3 d3 f3 wn wn2 HADD HB62 h4
  generalize w3.setCell ⟨b, 3, none⟩ (.int .i64 (h.nextPage + 1)) = w4 at *
  have HCU4 := Lib.hid (fun W (hc : Chg (fun _ => False) w4 W) => current_any w06 W b (navH h url) vl3 vs3 rs3 (HH4.out.still hc) (curE (navH h url)) (curE_get _ HH4.out.ok))
  unfold EntC at HCU4
  generalize hce : curE (navH h url) = e at HCU4
  have HCE := Lib.hid hce
  clear hce
  go_upto_region 5 with (go_at_call 19; first
    | (refine (HCU4.out _ HC5.out).mono ?_; rintro _ w6 ⟨vn6, vp6, rfl, hc6, hm6⟩; obtain ⟨⟨pn6, nn6, cn6, rfl⟩, pp6, np6, cp6, rfl⟩ := hm6.vals; have hpg6 := run_page e.id e.page e.x e.y e.url e.title pn6 pp6 nn6 cn6 np6 cp6 w6; clear hm6)
    | (refine (HCU4.out _ (Chg.refl _ _)).mono ?_; rintro _ w5 ⟨vn5, vp5, rfl, hc5, hm5⟩; obtain ⟨⟨qn, mn, dn, rfl⟩, qp, mp, dp, rfl⟩ := hm5.vals; have HM5 := Lib.hid hm5; have HC5 := Lib.hid hc5; clear hm5 hc5))
  obtain ⟨w08, hw8e, hx8, h7⟩ := (HH4.out.still (HC5.out.trans' hc6)).beside (.cells #[.int .i64 e.id, .int .i64 e.page, .string e.url, .string e.title, .slice qn mn dn, .slice qp mp dp, .int .i64 e.x, .int .i64 e.y, .int .i64 e.page, .bool false, .bool false, .slice none 0 0] 40)
  have HW8E := Lib.hid (hw8e.trans HW6E.out)
  have HB8 := Lib.hid (alloc_block w6 (.cells #[.int .i64 e.id, .int .i64 e.page, .string e.url, .string e.title, .slice qn mn dn, .slice qp mp dp, .int .i64 e.x, .int .i64 e.y, .int .i64 e.page, .bool false, .bool false, .slice none 0 0] 40))
  have HC57 := Lib.hid (hc6.allocR (.cells #[.int .i64 e.id, .int .i64 e.page, .string e.url, .string e.title, .slice qn mn dn, .slice qp mp dp, .int .i64 e.x, .int .i64 e.y, .int .i64 e.page, .bool false, .bool false, .slice none 0 0] 40))
  have HS5 := Lib.hid HC5.out.size
  have HS56 := Lib.hid hc6.size
  have HS7 := Lib.hid (World.size_alloc w6 (.cells #[.int .i64 e.id, .int .i64 e.page, .string e.url, .string e.title, .slice qn mn dn, .slice qp mp dp, .int .i64 e.x, .int .i64 e.y, .int .i64 e.page, .bool false, .bool false, .slice none 0 0] 40))
  have HH7 := Lib.hid h7
  have HX8 := Lib.hid hx8
  have HCL := Lib.hid (clean_any w08 _ b (navH h url) vl3 vs3 rs3 h7)
  clear h7 hc6 hpg6 hw8e hx8 HCU4
  generalize w6.alloc (.cells #[.int .i64 e.id, .int .i64 e.page, .string e.url, .string e.title, .slice qn mn dn, .slice qp mp dp, .int .i64 e.x, .int .i64 e.y, .int .i64 e.page, .bool false, .bool false, .slice none 0 0] 40) = w7 at *
  generalize hb8 : w6.heap.size = b8 at HB8 HX8 HS7 HS56 ⊢
  have HB8N : Hid (¬ Mut b vl3 vs3 b8) := Lib.hid (fun x => by have := HH4.out.mutLt b8 x; have := HS5.out; have := HS56.out; omega)
  clear hb8
  go_upto_region 6 with (go_at_call 44; refine HCL.out.mono ?_; rintro _ w8 ⟨vo, vs8, rfl, h8, hc8, hsub8, hrow8, hnew8⟩; obtain ⟨ao, co, rfl, -, -⟩ := hrow8.slice; have hb88 := hc8.keep HB8.out HB8N.out; have y0 := cell_of_block (i := 11) hb88 rfl; have yf := frozen_of_block (i := 11) hb88; simp only [List.getElem_toArray, List.getElem_cons_zero, List.getElem_cons_succ] at y0)
  have hb89 := setCell_block (i := 11) (.slice ao (goneL (navH h url) (navH h url).sleeping).length co) hb88
  have hc89 : Chg (fun k => k = b8) w8 (w8.setCell ⟨b8, 11, none⟩ (.slice ao (goneL (navH h url) (navH h url).sleeping).length co)) := Chg.setCell w8 ⟨b8, 11, none⟩ _
  have HS78 := Lib.hid hc8.size
  have h8g := HH7.out.regrow h8 rfl hc8 hsub8 (fun k => w08.X k ∨ (Value.slice ao (goneL (navH h url) (navH h url).sleeping).length co).ownBlock = some k) (fun k x => by
    rcases x with x | x
    · exact ⟨.inl x, h8.xl k x⟩
    · exact ⟨.inr (hnew8 k x), hrow8.lt k x⟩)
  have HX9 : Hid (∀ k, k = b6 ∨ k = b8 ∨ w0.X k → w08.X k) := Lib.hid (fun k x => by
    rcases x with x | x | x
    · exact (HX8.out k).2 (.inl ((HX6.out k).2 (.inr x)))
    · exact (HX8.out k).2 (.inr x)
    · exact (HX8.out k).2 (.inl ((HX6.out k).2 (.inl x))))
  have HB8S : Hid (w0.heap.size ≤ b8 ∧ w.heap.size ≤ b8) := Lib.hid (by have := HB0.out; have := HB6W.out; have := HS1.out; have := HS2.out; have := HS24.out; have := HS5.out; have := HS56.out; omega)
  have h9 := h8g.write hc89 (fun k x => .inl (HX9.out k (.inr (.inl x)))) (fun k x => by show w08.toWorld.heap.size ≤ k; rw [HW8E.out, show k = b8 from x]; exact HB8S.out.1)
  have HB89 : Hid ((w8.setCell ⟨b8, 11, none⟩ (.slice ao (goneL (navH h url) (navH h url).sleeping).length co)).heap[b8]? = some (.cells #[.int .i64 e.id, .int .i64 e.page, .string e.url, .string e.title, .slice qn mn dn, .slice qp mp dp, .int .i64 e.x, .int .i64 e.y, .int .i64 e.page, .bool false, .bool false, .slice ao (goneL (navH h url) (navH h url).sleeping).length co] 40 (0, 0))) := Lib.hid (by simpa using hb89)
  have hb6n : ¬ Mut b vl3 vs3 b6 := fun x => by
    have h1 := HM3.out b6 (by have := HS2.out; have := HS1.out; omega) x
    have := HMLT.out b6 h1
    have := HB6W.out
    omega
  have HB69 := Lib.hid (hc89.keep (hc8.keep (HC57.out.keep (HC5.out.keep HB64.out (fun x => x)) (fun x => x)) hb6n) (fun e => by have := HS5.out; have := HS56.out; have := HS24.out; have := HS2.out; have := HS1.out; omega))
  have HROW := Lib.hid (hrow8.chg hc89 (fun k hk e => by have := hnew8 k hk; have := HS7.out; omega))
  have HNEW := Lib.hid hnew8
  have HSUB := Lib.hid hsub8
  have HC59 := Lib.hid (show Chg (fun k => k < w4.heap.size) w5 _ from ((HC57.out.trans hc8 (fun _ _ x => x.elim) (fun k _ x => HH4.out.mutLt k x)).trans hc89 (fun _ _ x => x) (fun k hk x => by have : k = b8 := x; have := HS56.out; omega)))
  have HCW9 := Lib.hid (show Chg (fun k => Mut b vl vs k ∨ w.heap.size ≤ k) w _ from (((HC4.out.trans ((HC5.out.trans' HC57.out)) (fun _ _ x => .inl x) (fun _ _ x => x.elim)).trans hc8 (fun _ _ x => x) (fun k hk x => .inl (HM3.out k (Nat.lt_of_lt_of_le hk HC2.out.size) x))).trans hc89 (fun _ _ x => x) (fun k _ x => .inr (by have : k = b8 := x; have := HB8S.out; omega))))
  have HS89 := Lib.hid hc89.size
  have HH9 := Lib.hid h9
  have HSH := Lib.hid (shown_any _ _ b (cleanM (navH h url)) vl3 vs8 rs3 h9 old)
  have hsp : (cleanM (navH h url)).list.any (fun e => e.page == old) = shownP (navH h url) old := rfl
  rw [hsp] at HSH
  have HGL : Hid ((goneL (navH h url) (navH h url).sleeping).length ≤ 900) := Lib.hid (Nat.le_trans (goneL_le _ _) HSL.out)
  have HKL : Hid ((cleanM (navH h url)).sleeping.length ≤ 900) := Lib.hid (Nat.le_trans (keptL_le _ _) HSL.out)
  have HW9E : Hid (w08.toWorld = w0.toWorld) := HW8E
  clear hb89 hc89 h8 hc8 hsub8 hrow8 hnew8 h8g h9 hb88 y0 yf hsp hb6n HB8 HH7 HB64
  have HVG : Hid (goneL (navH h url) h.sleeping = goneL (navH h url) (navH h url).sleeping) := Lib.hid rfl
  generalize goneL (navH h url) (navH h url).sleeping = gone at *
  generalize w8.setCell ⟨b8, 11, none⟩ (.slice ao gone.length co) = w9 at *
  generalize hq : shownP (navH h url) old = q at HSH
  have HQ := Lib.hid hq
  clear hq
  cases keep with
  | false =>
    have HS' : Hid (navS h url false = false) := Lib.hid (by unfold navS; simp)
    have HV : Hid (navV h url false = ⟨e, e.page, false, false, sorted (gone ++ [old])⟩) := Lib.hid (by unfold navV; rw [HS'.out, HCE.out, HVG.out, HOLD.out]; rfl)
    have HN : Hid (navM h url false = cleanM (navH h url)) := Lib.hid (by unfold navM; rw [HS'.out]; rfl)
    go_upto_region 9 with fail
    have HC10 := Lib.hid (Chg.refl (fun _ => False) w9)
    have hb8a := HC10.out.keep HB89.out (fun x => x)
    have y0 := cell_of_block (i := 11) hb8a rfl
    simp only [List.getElem_toArray, List.getElem_cons_zero, List.getElem_cons_succ] at y0
    have HB8A := Lib.hid hb8a
    clear hb8a
    have HVB : Hid (¬ (Value.slice ao gone.length co).ownBlock = some b8) := Lib.hid (fun x => by have := HNEW.out b8 x; have := HS7.out; omega)
    have HV6 : Hid (¬ (Value.slice ao gone.length co).ownBlock = some b6) := Lib.hid (fun x => by have := HNEW.out b6 x; have := HS7.out; have := HS5.out; have := HS56.out; have := HS24.out; have := HS2.out; have := HS1.out; omega)
    have FR : Hid (∀ W1, Chg (fun k => (Value.slice ao gone.length co).ownBlock = some k) (w9.alloc (.cells #[.int .i64 old] 3)) W1 → W1.heap[b8]? = some (.cells #[.int .i64 e.id, .int .i64 e.page, .string e.url, .string e.title, .slice qn mn dn, .slice qp mp dp, .int .i64 e.x, .int .i64 e.y, .int .i64 e.page, .bool false, .bool false, .slice ao gone.length co] 40 (0, 0))) := Lib.hid (fun W1 hc => hc.keep ((Chg.alloc (fun _ => False) w9 _).keep HB8A.out (fun x => x)) HVB.out)
    have HROWA := Lib.hid (HROW.out.chg HC10.out (fun _ _ x => x))
    go_upto_region 10 with (at_builtin; refine wpList_outR rfl (.tmp 47) (.tmp 49) rfl _ gone rfl (HROWA.out.alloc _) _ [old] rfl (RowAt.lit [.int .i64 old] rfl (by simp [maxLen])) (⟨by have := HGL.out; simp only [List.length_cons, List.length_nil]; omega⟩ : Few _) ?_; intro a2 n2 c2 w11 hrow11 hch11 hold11; have hb8b := FR.out w11 hch11; have y2 := cell_of_block (i := 11) hb8b rfl; have yf2 := frozen_of_block (i := 11) hb8b; simp only [List.getElem_toArray, List.getElem_cons_zero, List.getElem_cons_succ] at y2)
    have hS10 := World.size_alloc w9 (.cells #[.int .i64 old] 3)
    have hold : ∀ k, (Value.slice a2 n2 c2).ownBlock = some k → (Value.slice ao gone.length co).ownBlock = some k ∨ w9.heap.size ≤ k := fun k hk => (hold11 k hk).imp id (fun y => by rw [World.size_alloc] at y; omega)
    have hc1011 : Chg (fun k => (Value.slice ao gone.length co).ownBlock = some k) w9 w11 := (Chg.alloc (fun _ => False) w9 (.cells #[.int .i64 old] 3)).trans hch11 (fun _ _ x => x.elim) (fun _ _ x => x)
    have hb8w : b8 < w9.heap.size := lt_of_block HB8A.out
    have hb6w : b6 < w9.heap.size := by have := HS5.out; have := HS56.out; have := HS24.out; have := HS2.out; have := HS1.out; omega
    have ha8 : ¬ (Value.slice a2 n2 c2).ownBlock = some b8 := fun x => (hold b8 x).elim HVB.out (fun y => by omega)
    have ha6 : ¬ (Value.slice a2 n2 c2).ownBlock = some b6 := fun x => (hold b6 x).elim HV6.out (fun y => by omega)
    have hcs12 : Chg (fun k => k = b8) w11 (w11.setCell ⟨b8, 11, none⟩ (.slice a2 n2 c2)) := Chg.setCell w11 ⟨b8, 11, none⟩ _
    have hb812 := setCell_block (i := 11) (.slice a2 n2 c2) hb8b
    have HB812 : Hid ((w11.setCell ⟨b8, 11, none⟩ (.slice a2 n2 c2)).heap[b8]? = some (.cells #[.int .i64 e.id, .int .i64 e.page, .string e.url, .string e.title, .slice qn mn dn, .slice qp mp dp, .int .i64 e.x, .int .i64 e.y, .int .i64 e.page, .bool false, .bool false, .slice a2 n2 c2] 40 (0, 0))) := Lib.hid (by simpa using hb812)
    have hrow12 := hrow11.chg hcs12 (fun k hk x => ha8 (x ▸ hk))
    have HSO := Lib.hid (sortRow _ _ (gone ++ [old]) hrow12 ⟨by rw [List.length_append]; simp only [List.length_cons, List.length_nil]; have := HGL.out; omega⟩)
    have HC1012 := Lib.hid (hc1011.trans hcs12 (fun k _ x => (.inl x : (Value.slice ao gone.length co).ownBlock = some k ∨ k = b8)) (fun k _ x => .inr x))
    have HB612 := Lib.hid (hcs12.keep (hc1011.keep (HC10.out.keep HB69.out (fun x => x)) HV6.out) (fun e => by have := HS5.out; have := HS56.out; have := HS24.out; have := HS2.out; have := HS1.out; omega))
    have HOLD2 := Lib.hid hold
    have HA8 := Lib.hid ha8
    have HA6 := Lib.hid ha6
    clear hS10 hold hc1011 ha8 ha6 hcs12 hb812 hrow12 hrow11 hch11 hold11 hb8b y2 yf2 y0 FR hb8w hb6w
    generalize w11.setCell ⟨b8, 11, none⟩ (.slice a2 n2 c2) = w12 at *
    have hb8c := HB812.out
    have y3 := cell_of_block (i := 11) hb8c rfl
    simp only [List.getElem_toArray, List.getElem_cons_zero, List.getElem_cons_succ] at y3
    clear hb8c
    go_upto_region 11 with (go_at_call 46; refine HSO.out.mono ?_; rintro _ w13 ⟨rfl, hrow13, hch13⟩)
    clear y3
    have HB8X := Lib.hid (hch13.keep HB812.out HA8.out)
    have HB6X := Lib.hid (hch13.keep HB612.out HA6.out)
    have hown : ∀ k, (Value.slice ao gone.length co).ownBlock = some k → b8 < k := fun k x => by have := HNEW.out k x; have := HS7.out; omega
    have h1013 : Chg (fun k => ((Value.slice ao gone.length co).ownBlock = some k ∨ k = b8) ∨ (Value.slice a2 n2 c2).ownBlock = some k) w9 w13 := HC1012.out.trans hch13 (fun k _ x => .inl x) (fun k _ x => .inr x)
    have hge : ∀ k, ((Value.slice ao gone.length co).ownBlock = some k ∨ k = b8) ∨ (Value.slice a2 n2 c2).ownBlock = some k → b8 ≤ k := fun k x => by
      rcases x with (x | x) | x
      · have := hown k x; omega
      · omega
      · rcases HOLD2.out k x with y | y
        · have := hown k y; omega
        · have := lt_of_block HB8A.out; omega
    have HH12 := Lib.hid (((HH9.out.still HC10.out).grow h1013 (fun k hk x => by
      rcases x with (x | x) | x
      · exact .inr x
      · exact .inl (HX9.out k (.inr (.inl x)))
      · rcases HOLD2.out k x with y | y
        · exact .inr y
        · omega) (fun k x => by show w08.toWorld.heap.size ≤ k; rw [HW8E.out]; have := HB8S.out.1; have := hge k x; omega) w08.X (fun k x => ⟨.inl (.inl x), Nat.lt_of_lt_of_le ((HH9.out.still HC10.out).xl k (.inl x)) h1013.size⟩)))
    have HC5E := Lib.hid ((HC59.out.trans HC10.out (fun _ _ x => x) (fun _ _ x => x.elim)).trans h1013 (fun _ _ x => x) (fun k hk x => by have := hge k x; have := HS56.out; omega))
    have HMU : Hid (∀ k, k < w5.heap.size → Mut b vl3 vs8 k → k < w4.heap.size) := Lib.hid (fun k _ x => HH4.out.mutLt k (HSUB.out k x))
    have HMW : Hid (∀ k, k < w.heap.size → Mut b vl3 vs8 k → Mut b vl vs k) := Lib.hid (fun k hk x => HM3.out k (Nat.lt_of_lt_of_le hk HC2.out.size) (HSUB.out k x))
    have HCW := Lib.hid ((HCW9.out.trans HC10.out (fun _ _ x => x) (fun _ _ x => x.elim)).trans h1013 (fun _ _ x => x) (fun k _ x => .inr (by have := hge k x; have := HB8S.out.2; omega)))
    have HROWX := Lib.hid hrow13
    have HOWN : Hid (∀ k, (Value.slice a2 n2 c2).ownBlock = some k → b8 ≤ k) := Lib.hid (fun k x => hge k (.inr x))
    clear hrow13 hch13 hown h1013 hge

    have hb6e := HB6X.out
    have hb8e := HB8X.out
    have l0 := cell_of_block (i := 0) hb8e rfl
    have l1 := cell_of_block (i := 1) hb8e rfl
    have l2 := cell_of_block (i := 2) hb8e rfl
    have l3 := cell_of_block (i := 3) hb8e rfl
    have l4 := cell_of_block (i := 4) hb8e rfl
    have l5 := cell_of_block (i := 5) hb8e rfl
    have l6 := cell_of_block (i := 6) hb8e rfl
    have l7 := cell_of_block (i := 7) hb8e rfl
    have l8 := cell_of_block (i := 8) hb8e rfl
    have l9 := cell_of_block (i := 9) hb8e rfl
    have l10 := cell_of_block (i := 10) hb8e rfl
    have l11 := cell_of_block (i := 11) hb8e rfl
    simp only [List.getElem_toArray, List.getElem_cons_zero, List.getElem_cons_succ] at l0 l1 l2 l3 l4 l5 l6 l7 l8 l9 l10 l11
    obtain ⟨z0, q0, z1, q1, z2, q2, z3, q3, z4, q4, z5, q5, z6, q6, z7, q7, z8, q8, z9, q9, z10, q10, z11, q11, hbf, hcs⟩ := store12 hb6e (.int .i64 e.id) (.int .i64 e.page) (.string e.url) (.string e.title) (.slice qn mn dn) (.slice qp mp dp) (.int .i64 e.x) (.int .i64 e.y) (.int .i64 e.page) (.bool false) (.bool false) (.slice a2 n2 c2)
    have HCS := Lib.hid hcs
    clear hcs hb6e hb8e
    go_wp2_with fail
    generalize ((((((((((((w13.setCell ⟨b6, 0, none⟩ (.int .i64 e.id)).setCell ⟨b6, 1, none⟩ (.int .i64 e.page)).setCell ⟨b6, 2, none⟩ (.string e.url)).setCell ⟨b6, 3, none⟩ (.string e.title)).setCell ⟨b6, 4, none⟩ (.slice qn mn dn)).setCell ⟨b6, 5, none⟩ (.slice qp mp dp)).setCell ⟨b6, 6, none⟩ (.int .i64 e.x)).setCell ⟨b6, 7, none⟩ (.int .i64 e.y)).setCell ⟨b6, 8, none⟩ (.int .i64 e.page)).setCell ⟨b6, 9, none⟩ (.bool false)).setCell ⟨b6, 10, none⟩ (.bool false)).setCell ⟨b6, 11, none⟩ (.slice a2 n2 c2)) = wz at *
    refine bodyPost_ret (results_cell_row rfl _ _ b6 _ _ _ _ (by rfl) hbf Tryd.underlying40 rfl (by kernel_rfl)) rfl ?_
    rw [HV.out, HN.out]
    have hb6n : ∀ k, k = b6 → w0.heap.size ≤ k ∧ k < w4.heap.size ∧ w.heap.size ≤ k := fun k e => by
      have := HB6W.out
      have := HB0.out
      have := HS24.out
      have := HS2.out
      have := HS1.out
      omega
    have hms : MsgAt (fun k => k < w.heap.size ∨ Mut b vl3 vs8 k) wz (.slice qn mn dn) (.slice qp mp dp) e.msg := by
      refine HM5.out.chg (HC5E.out.trans HCS.out (fun k _ x => x) (fun k _ x => (hb6n k x).2.1)) (fun k _ x => x) (fun k hk x => ?_)
      rcases x with x | x
      · have := HS2.out
        have := HS24.out
        have := HS1.out
        have := HB6W.out
        show k < w4.heap.size
        omega
      · exact HMU.out k hk x
    refine ⟨_, rfl, vl3, vs8, rs3, ?_, ?_, HMW.out, .slice qn mn dn, .slice qp mp dp, .slice a2 n2 c2, rfl, hms, ?_, ?_⟩
    · refine (HH12.out.write HCS.out (fun k x => HX9.out k (.inl x)) (fun k x => ?_)).shrink HW9E.out (fun k x => HX9.out k (.inr (.inr x)))
      show w08.toWorld.heap.size ≤ k
      rw [HW9E.out]
      exact (hb6n k x).1
    · exact (HCW.out.trans HCS.out (fun k _ x => x) (fun k _ x => .inr (hb6n k x).2.2)).mono (fun k hk x => x.elim id (fun y => by omega))
    · exact HROWX.out.chg HCS.out (fun k hk x => HA6.out (x ▸ hk))
    · intro k hk x
      have h1 := HOWN.out k hk
      rcases x with x | x
      · have := HB8S.out.2; omega
      · have := HH4.out.mutLt k (HSUB.out k x); have := HS5.out; have := HS56.out; omega
  | true =>
    cases q with
    | false =>
      have HS' : Hid (navS h url true = false) := Lib.hid (by unfold navS; rw [HOLD.out, HQ.out]; rfl)
      have HV : Hid (navV h url true = ⟨e, e.page, false, false, sorted (gone ++ [old])⟩) := Lib.hid (by unfold navV; rw [HS'.out, HCE.out, HVG.out, HOLD.out]; rfl)
      have HN : Hid (navM h url true = cleanM (navH h url)) := Lib.hid (by unfold navM; rw [HS'.out]; rfl)
      go_upto_region 9 with (go_at_call 45; refine HSH.out.mono ?_; rintro _ w10 ⟨rfl, hc10⟩)
      have HC10 := Lib.hid hc10
      clear hc10
      have hb8a := HC10.out.keep HB89.out (fun x => x)
      have y0 := cell_of_block (i := 11) hb8a rfl
      simp only [List.getElem_toArray, List.getElem_cons_zero, List.getElem_cons_succ] at y0
      have HB8A := Lib.hid hb8a
      clear hb8a
      have HVB : Hid (¬ (Value.slice ao gone.length co).ownBlock = some b8) := Lib.hid (fun x => by have := HNEW.out b8 x; have := HS7.out; omega)
      have HV6 : Hid (¬ (Value.slice ao gone.length co).ownBlock = some b6) := Lib.hid (fun x => by have := HNEW.out b6 x; have := HS7.out; have := HS5.out; have := HS56.out; have := HS24.out; have := HS2.out; have := HS1.out; omega)
      have FR : Hid (∀ W1, Chg (fun k => (Value.slice ao gone.length co).ownBlock = some k) (w10.alloc (.cells #[.int .i64 old] 3)) W1 → W1.heap[b8]? = some (.cells #[.int .i64 e.id, .int .i64 e.page, .string e.url, .string e.title, .slice qn mn dn, .slice qp mp dp, .int .i64 e.x, .int .i64 e.y, .int .i64 e.page, .bool false, .bool false, .slice ao gone.length co] 40 (0, 0))) := Lib.hid (fun W1 hc => hc.keep ((Chg.alloc (fun _ => False) w10 _).keep HB8A.out (fun x => x)) HVB.out)
      have HROWA := Lib.hid (HROW.out.chg HC10.out (fun _ _ x => x))
      go_upto_region 10 with (at_builtin; refine wpList_outR rfl (.tmp 47) (.tmp 49) rfl _ gone rfl (HROWA.out.alloc _) _ [old] rfl (RowAt.lit [.int .i64 old] rfl (by simp [maxLen])) (⟨by have := HGL.out; simp only [List.length_cons, List.length_nil]; omega⟩ : Few _) ?_; intro a2 n2 c2 w11 hrow11 hch11 hold11; have hb8b := FR.out w11 hch11; have y2 := cell_of_block (i := 11) hb8b rfl; have yf2 := frozen_of_block (i := 11) hb8b; simp only [List.getElem_toArray, List.getElem_cons_zero, List.getElem_cons_succ] at y2)
      have hS10 := World.size_alloc w10 (.cells #[.int .i64 old] 3)
      have hold : ∀ k, (Value.slice a2 n2 c2).ownBlock = some k → (Value.slice ao gone.length co).ownBlock = some k ∨ w10.heap.size ≤ k := fun k hk => (hold11 k hk).imp id (fun y => by rw [World.size_alloc] at y; omega)
      have hc1011 : Chg (fun k => (Value.slice ao gone.length co).ownBlock = some k) w10 w11 := (Chg.alloc (fun _ => False) w10 (.cells #[.int .i64 old] 3)).trans hch11 (fun _ _ x => x.elim) (fun _ _ x => x)
      have hb8w : b8 < w10.heap.size := lt_of_block HB8A.out
      have hb6w : b6 < w10.heap.size := by have := HS5.out; have := HS56.out; have := HS24.out; have := HS2.out; have := HS1.out; omega
      have ha8 : ¬ (Value.slice a2 n2 c2).ownBlock = some b8 := fun x => (hold b8 x).elim HVB.out (fun y => by omega)
      have ha6 : ¬ (Value.slice a2 n2 c2).ownBlock = some b6 := fun x => (hold b6 x).elim HV6.out (fun y => by omega)
      have hcs12 : Chg (fun k => k = b8) w11 (w11.setCell ⟨b8, 11, none⟩ (.slice a2 n2 c2)) := Chg.setCell w11 ⟨b8, 11, none⟩ _
      have hb812 := setCell_block (i := 11) (.slice a2 n2 c2) hb8b
      have HB812 : Hid ((w11.setCell ⟨b8, 11, none⟩ (.slice a2 n2 c2)).heap[b8]? = some (.cells #[.int .i64 e.id, .int .i64 e.page, .string e.url, .string e.title, .slice qn mn dn, .slice qp mp dp, .int .i64 e.x, .int .i64 e.y, .int .i64 e.page, .bool false, .bool false, .slice a2 n2 c2] 40 (0, 0))) := Lib.hid (by simpa using hb812)
      have hrow12 := hrow11.chg hcs12 (fun k hk x => ha8 (x ▸ hk))
      have HSO := Lib.hid (sortRow _ _ (gone ++ [old]) hrow12 ⟨by rw [List.length_append]; simp only [List.length_cons, List.length_nil]; have := HGL.out; omega⟩)
      have HC1012 := Lib.hid (hc1011.trans hcs12 (fun k _ x => (.inl x : (Value.slice ao gone.length co).ownBlock = some k ∨ k = b8)) (fun k _ x => .inr x))
      have HB612 := Lib.hid (hcs12.keep (hc1011.keep (HC10.out.keep HB69.out (fun x => x)) HV6.out) (fun e => by have := HS5.out; have := HS56.out; have := HS24.out; have := HS2.out; have := HS1.out; omega))
      have HOLD2 := Lib.hid hold
      have HA8 := Lib.hid ha8
      have HA6 := Lib.hid ha6
      clear hS10 hold hc1011 ha8 ha6 hcs12 hb812 hrow12 hrow11 hch11 hold11 hb8b y2 yf2 y0 FR hb8w hb6w
      generalize w11.setCell ⟨b8, 11, none⟩ (.slice a2 n2 c2) = w12 at *
      have hb8c := HB812.out
      have y3 := cell_of_block (i := 11) hb8c rfl
      simp only [List.getElem_toArray, List.getElem_cons_zero, List.getElem_cons_succ] at y3
      clear hb8c
      go_upto_region 11 with (go_at_call 46; refine HSO.out.mono ?_; rintro _ w13 ⟨rfl, hrow13, hch13⟩)
      clear y3
      have HB8X := Lib.hid (hch13.keep HB812.out HA8.out)
      have HB6X := Lib.hid (hch13.keep HB612.out HA6.out)
      have hown : ∀ k, (Value.slice ao gone.length co).ownBlock = some k → b8 < k := fun k x => by have := HNEW.out k x; have := HS7.out; omega
      have h1013 : Chg (fun k => ((Value.slice ao gone.length co).ownBlock = some k ∨ k = b8) ∨ (Value.slice a2 n2 c2).ownBlock = some k) w10 w13 := HC1012.out.trans hch13 (fun k _ x => .inl x) (fun k _ x => .inr x)
      have hge : ∀ k, ((Value.slice ao gone.length co).ownBlock = some k ∨ k = b8) ∨ (Value.slice a2 n2 c2).ownBlock = some k → b8 ≤ k := fun k x => by
        rcases x with (x | x) | x
        · have := hown k x; omega
        · omega
        · rcases HOLD2.out k x with y | y
          · have := hown k y; omega
          · have := lt_of_block HB8A.out; omega
      have HH12 := Lib.hid (((HH9.out.still HC10.out).grow h1013 (fun k hk x => by
        rcases x with (x | x) | x
        · exact .inr x
        · exact .inl (HX9.out k (.inr (.inl x)))
        · rcases HOLD2.out k x with y | y
          · exact .inr y
          · omega) (fun k x => by show w08.toWorld.heap.size ≤ k; rw [HW8E.out]; have := HB8S.out.1; have := hge k x; omega) w08.X (fun k x => ⟨.inl (.inl x), Nat.lt_of_lt_of_le ((HH9.out.still HC10.out).xl k (.inl x)) h1013.size⟩)))
      have HC5E := Lib.hid ((HC59.out.trans HC10.out (fun _ _ x => x) (fun _ _ x => x.elim)).trans h1013 (fun _ _ x => x) (fun k hk x => by have := hge k x; have := HS56.out; omega))
      have HMU : Hid (∀ k, k < w5.heap.size → Mut b vl3 vs8 k → k < w4.heap.size) := Lib.hid (fun k _ x => HH4.out.mutLt k (HSUB.out k x))
      have HMW : Hid (∀ k, k < w.heap.size → Mut b vl3 vs8 k → Mut b vl vs k) := Lib.hid (fun k hk x => HM3.out k (Nat.lt_of_lt_of_le hk HC2.out.size) (HSUB.out k x))
      have HCW := Lib.hid ((HCW9.out.trans HC10.out (fun _ _ x => x) (fun _ _ x => x.elim)).trans h1013 (fun _ _ x => x) (fun k _ x => .inr (by have := hge k x; have := HB8S.out.2; omega)))
      have HROWX := Lib.hid hrow13
      have HOWN : Hid (∀ k, (Value.slice a2 n2 c2).ownBlock = some k → b8 ≤ k) := Lib.hid (fun k x => hge k (.inr x))
      clear hrow13 hch13 hown h1013 hge

      have hb6e := HB6X.out
      have hb8e := HB8X.out
      have l0 := cell_of_block (i := 0) hb8e rfl
      have l1 := cell_of_block (i := 1) hb8e rfl
      have l2 := cell_of_block (i := 2) hb8e rfl
      have l3 := cell_of_block (i := 3) hb8e rfl
      have l4 := cell_of_block (i := 4) hb8e rfl
      have l5 := cell_of_block (i := 5) hb8e rfl
      have l6 := cell_of_block (i := 6) hb8e rfl
      have l7 := cell_of_block (i := 7) hb8e rfl
      have l8 := cell_of_block (i := 8) hb8e rfl
      have l9 := cell_of_block (i := 9) hb8e rfl
      have l10 := cell_of_block (i := 10) hb8e rfl
      have l11 := cell_of_block (i := 11) hb8e rfl
      simp only [List.getElem_toArray, List.getElem_cons_zero, List.getElem_cons_succ] at l0 l1 l2 l3 l4 l5 l6 l7 l8 l9 l10 l11
      obtain ⟨z0, q0, z1, q1, z2, q2, z3, q3, z4, q4, z5, q5, z6, q6, z7, q7, z8, q8, z9, q9, z10, q10, z11, q11, hbf, hcs⟩ := store12 hb6e (.int .i64 e.id) (.int .i64 e.page) (.string e.url) (.string e.title) (.slice qn mn dn) (.slice qp mp dp) (.int .i64 e.x) (.int .i64 e.y) (.int .i64 e.page) (.bool false) (.bool false) (.slice a2 n2 c2)
      have HCS := Lib.hid hcs
      clear hcs hb6e hb8e
      go_wp2_with fail
      generalize ((((((((((((w13.setCell ⟨b6, 0, none⟩ (.int .i64 e.id)).setCell ⟨b6, 1, none⟩ (.int .i64 e.page)).setCell ⟨b6, 2, none⟩ (.string e.url)).setCell ⟨b6, 3, none⟩ (.string e.title)).setCell ⟨b6, 4, none⟩ (.slice qn mn dn)).setCell ⟨b6, 5, none⟩ (.slice qp mp dp)).setCell ⟨b6, 6, none⟩ (.int .i64 e.x)).setCell ⟨b6, 7, none⟩ (.int .i64 e.y)).setCell ⟨b6, 8, none⟩ (.int .i64 e.page)).setCell ⟨b6, 9, none⟩ (.bool false)).setCell ⟨b6, 10, none⟩ (.bool false)).setCell ⟨b6, 11, none⟩ (.slice a2 n2 c2)) = wz at *
      refine bodyPost_ret (results_cell_row rfl _ _ b6 _ _ _ _ (by rfl) hbf Tryd.underlying40 rfl (by kernel_rfl)) rfl ?_
      rw [HV.out, HN.out]
      have hb6n : ∀ k, k = b6 → w0.heap.size ≤ k ∧ k < w4.heap.size ∧ w.heap.size ≤ k := fun k e => by
        have := HB6W.out
        have := HB0.out
        have := HS24.out
        have := HS2.out
        have := HS1.out
        omega
      have hms : MsgAt (fun k => k < w.heap.size ∨ Mut b vl3 vs8 k) wz (.slice qn mn dn) (.slice qp mp dp) e.msg := by
        refine HM5.out.chg (HC5E.out.trans HCS.out (fun k _ x => x) (fun k _ x => (hb6n k x).2.1)) (fun k _ x => x) (fun k hk x => ?_)
        rcases x with x | x
        · have := HS2.out
          have := HS24.out
          have := HS1.out
          have := HB6W.out
          show k < w4.heap.size
          omega
        · exact HMU.out k hk x
      refine ⟨_, rfl, vl3, vs8, rs3, ?_, ?_, HMW.out, .slice qn mn dn, .slice qp mp dp, .slice a2 n2 c2, rfl, hms, ?_, ?_⟩
      · refine (HH12.out.write HCS.out (fun k x => HX9.out k (.inl x)) (fun k x => ?_)).shrink HW9E.out (fun k x => HX9.out k (.inr (.inr x)))
        show w08.toWorld.heap.size ≤ k
        rw [HW9E.out]
        exact (hb6n k x).1
      · exact (HCW.out.trans HCS.out (fun k _ x => x) (fun k _ x => .inr (hb6n k x).2.2)).mono (fun k hk x => x.elim id (fun y => by omega))
      · exact HROWX.out.chg HCS.out (fun k hk x => HA6.out (x ▸ hk))
      · intro k hk x
        have h1 := HOWN.out k hk
        rcases x with x | x
        · have := HB8S.out.2; omega
        · have := HH4.out.mutLt k (HSUB.out k x); have := HS5.out; have := HS56.out; omega
    | true =>
      have HS' : Hid (navS h url true = true) := Lib.hid (by unfold navS; rw [HOLD.out, HQ.out]; rfl)
      have HV : Hid (navV h url true = ⟨e, e.page, false, true, gone⟩) := Lib.hid (by unfold navV; rw [HS'.out, HCE.out, HVG.out]; rfl)
      have HN : Hid (navM h url true = sleepM (cleanM (navH h url)) old) := Lib.hid (by unfold navM; rw [HS'.out, HOLD.out]; rfl)
      go_upto_region 7 with (go_at_call 45; refine HSH.out.mono ?_; rintro _ w10 ⟨rfl, hc10⟩)
      have HC10 := Lib.hid hc10
      have hb8a := hc10.keep HB89.out (fun x => x)
      have y0 := cell_of_block (i := 10) hb8a rfl
      have yf := frozen_of_block (i := 10) hb8a
      simp only [List.getElem_toArray, List.getElem_cons_zero, List.getElem_cons_succ] at y0
      clear hc10
      go_upto_region 8 with fail
      have hb8b := setCell_block (i := 10) (.bool true) hb8a
      have hcs11 : Chg (fun k => k = b8) w10 (w10.setCell ⟨b8, 10, none⟩ (.bool true)) := Chg.setCell w10 ⟨b8, 10, none⟩ _
      have h11 := (HH9.out.still HC10.out).write hcs11 (fun k x => .inl (HX9.out k (.inr (.inl x)))) (fun k x => by show w08.toWorld.heap.size ≤ k; rw [HW8E.out, show k = b8 from x]; exact HB8S.out.1)
      have HB811 : Hid ((w10.setCell ⟨b8, 10, none⟩ (.bool true)).heap[b8]? = some (.cells #[.int .i64 e.id, .int .i64 e.page, .string e.url, .string e.title, .slice qn mn dn, .slice qp mp dp, .int .i64 e.x, .int .i64 e.y, .int .i64 e.page, .bool false, .bool true, .slice ao gone.length co] 40 (0, 0))) := Lib.hid (by simpa using hb8b)
      have HC911 := Lib.hid (HC10.out.trans hcs11 (fun _ _ x => x.elim) (fun k _ x => x))
      have HSLP := Lib.hid (sleep_any _ _ b (cleanM (navH h url)) vl3 vs8 rs3 h11 old (by have := HKL.out; omega))
      have HROW11 := Lib.hid ((HROW.out.chg HC10.out (fun _ _ x => x)).chg hcs11 (fun k hk x => by have := HNEW.out k hk; have := HS7.out; have : k = b8 := x; omega))
      have HB611 := Lib.hid (hcs11.keep (HC10.out.keep HB69.out (fun x => x)) (fun e => by have := HS5.out; have := HS56.out; have := HS24.out; have := HS2.out; have := HS1.out; omega))
      have HH11 := Lib.hid h11
      clear hb8a hb8b hcs11 h11 y0 yf
      generalize w10.setCell ⟨b8, 10, none⟩ (.bool true) = w11 at *
      go_upto_region 11 with (go_at_call 41; refine HSLP.out.mono ?_; rintro _ w12 ⟨rfl, vl12, vs12, rs12, h12, hc12, hm12⟩)
      have HM8 : Hid (∀ k, Mut b vl3 vs8 k → k < w4.heap.size) := Lib.hid (fun k x => HH4.out.mutLt k (HSUB.out k x))
      have HB8X := Lib.hid (hc12.keep HB811.out (fun x => by have := HM8.out b8 x; have := HS5.out; have := HS56.out; omega))
      have HB6X := Lib.hid (hc12.keep HB611.out (fun x => by
        have h1 := HM3.out b6 (by have := HS2.out; have := HS1.out; omega) (HSUB.out b6 x)
        have := HMLT.out b6 h1
        have := HB6W.out
        omega))
      have HH12 := Lib.hid (h12.shrink (w0 := ⟨w08, w08.X⟩) rfl (fun k x => .inl x))
      have HC5E := Lib.hid ((HC59.out.trans HC911.out (fun _ _ x => x) (fun k hk x => by have : k = b8 := x; have := HS56.out; omega)).trans hc12 (fun _ _ x => x) (fun k hk x => HM8.out k x))
      have hs911 : w5.heap.size ≤ w11.heap.size := Nat.le_trans HC59.out.size HC911.out.size
      have HMU : Hid (∀ k, k < w5.heap.size → Mut b vl12 vs12 k → k < w4.heap.size) := Lib.hid (fun k hk x => HM8.out k (hm12 k (by omega) x))
      have HMW : Hid (∀ k, k < w.heap.size → Mut b vl12 vs12 k → Mut b vl vs k) := Lib.hid (fun k hk x => HM3.out k (Nat.lt_of_lt_of_le hk HC2.out.size) (HSUB.out k (hm12 k (by have := HCW9.out.size; have := HC911.out.size; omega) x)))
      have HCW := Lib.hid ((HCW9.out.trans HC911.out (fun _ _ x => x) (fun k _ x => .inr (by have : k = b8 := x; have := HB8S.out.2; omega))).trans hc12 (fun _ _ x => x) (fun k hk x => .inl (HM3.out k (Nat.lt_of_lt_of_le hk HC2.out.size) (HSUB.out k x))))
      have HROWX := Lib.hid (HROW11.out.chg hc12 (fun k hk x => by have := HNEW.out k hk; have := HS7.out; have := HM8.out k x; have := HS5.out; have := HS56.out; omega))
      have HM12 := Lib.hid hm12
      clear h12 hc12 hm12 hs911

      have hb6e := HB6X.out
      have hb8e := HB8X.out
      have l0 := cell_of_block (i := 0) hb8e rfl
      have l1 := cell_of_block (i := 1) hb8e rfl
      have l2 := cell_of_block (i := 2) hb8e rfl
      have l3 := cell_of_block (i := 3) hb8e rfl
      have l4 := cell_of_block (i := 4) hb8e rfl
      have l5 := cell_of_block (i := 5) hb8e rfl
      have l6 := cell_of_block (i := 6) hb8e rfl
      have l7 := cell_of_block (i := 7) hb8e rfl
      have l8 := cell_of_block (i := 8) hb8e rfl
      have l9 := cell_of_block (i := 9) hb8e rfl
      have l10 := cell_of_block (i := 10) hb8e rfl
      have l11 := cell_of_block (i := 11) hb8e rfl
      simp only [List.getElem_toArray, List.getElem_cons_zero, List.getElem_cons_succ] at l0 l1 l2 l3 l4 l5 l6 l7 l8 l9 l10 l11
      obtain ⟨z0, q0, z1, q1, z2, q2, z3, q3, z4, q4, z5, q5, z6, q6, z7, q7, z8, q8, z9, q9, z10, q10, z11, q11, hbf, hcs⟩ := store12 hb6e (.int .i64 e.id) (.int .i64 e.page) (.string e.url) (.string e.title) (.slice qn mn dn) (.slice qp mp dp) (.int .i64 e.x) (.int .i64 e.y) (.int .i64 e.page) (.bool false) (.bool true) (.slice ao gone.length co)
      have HCS := Lib.hid hcs
      clear hcs hb6e hb8e
      go_wp2_with fail
      generalize ((((((((((((w12.setCell ⟨b6, 0, none⟩ (.int .i64 e.id)).setCell ⟨b6, 1, none⟩ (.int .i64 e.page)).setCell ⟨b6, 2, none⟩ (.string e.url)).setCell ⟨b6, 3, none⟩ (.string e.title)).setCell ⟨b6, 4, none⟩ (.slice qn mn dn)).setCell ⟨b6, 5, none⟩ (.slice qp mp dp)).setCell ⟨b6, 6, none⟩ (.int .i64 e.x)).setCell ⟨b6, 7, none⟩ (.int .i64 e.y)).setCell ⟨b6, 8, none⟩ (.int .i64 e.page)).setCell ⟨b6, 9, none⟩ (.bool false)).setCell ⟨b6, 10, none⟩ (.bool true)).setCell ⟨b6, 11, none⟩ (.slice ao gone.length co)) = wz at *
      refine bodyPost_ret (results_cell_row rfl _ _ b6 _ _ _ _ (by rfl) hbf Tryd.underlying40 rfl (by kernel_rfl)) rfl ?_
      rw [HV.out, HN.out]
      have hb6n : ∀ k, k = b6 → w0.heap.size ≤ k ∧ k < w4.heap.size ∧ w.heap.size ≤ k := fun k e => by
        have := HB6W.out
        have := HB0.out
        have := HS24.out
        have := HS2.out
        have := HS1.out
        omega
      have hms : MsgAt (fun k => k < w.heap.size ∨ Mut b vl12 vs12 k) wz (.slice qn mn dn) (.slice qp mp dp) e.msg := by
        refine HM5.out.chg (HC5E.out.trans HCS.out (fun k _ x => x) (fun k _ x => (hb6n k x).2.1)) (fun k _ x => x) (fun k hk x => ?_)
        rcases x with x | x
        · have := HS2.out
          have := HS24.out
          have := HS1.out
          have := HB6W.out
          show k < w4.heap.size
          omega
        · exact HMU.out k hk x
      refine ⟨_, rfl, vl12, vs12, rs12, ?_, ?_, HMW.out, .slice qn mn dn, .slice qp mp dp, .slice ao gone.length co, rfl, hms, ?_, ?_⟩
      · refine (HH12.out.write HCS.out (fun k x => HX9.out k (.inl x)) (fun k x => ?_)).shrink HW9E.out (fun k x => HX9.out k (.inr (.inr x)))
        show w08.toWorld.heap.size ≤ k
        rw [HW9E.out]
        exact (hb6n k x).1
      · exact (HCW.out.trans HCS.out (fun k _ x => x) (fun k _ x => .inr (hb6n k x).2.2)).mono (fun k hk x => x.elim id (fun y => by omega))
      · exact HROWX.out.chg HCS.out (fun k hk x => by have := HNEW.out k hk; have := HS7.out; have : k = b6 := x; have := HS5.out; have := HS56.out; have := HS24.out; have := HS2.out; have := HS1.out; omega)
      · intro k hk x
        have h1 := HNEW.out k hk
        rcases x with x | x
        · have := HB8S.out.2; have := HS7.out; omega
        · have h2 := HROW11.out.lt k hk
          have := HM8.out k (HM12.out k h2 x)
          have := HS5.out; have := HS56.out; have := HS7.out; omega
end Go.Proofs.YtiecgbmeobpomaaDoor
