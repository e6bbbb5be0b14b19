/-
  Formed of the reference of layer 54 (the text of Migl, without what it imports).
  A machine of which the messages were changed first, then the seats: both at once.
  The reference of layer 54: Receive's own copy of a seat.
-/
import Derived.Test.YtkoopagjjmdodaaMri
import Derived.Test.YtkoopagjjmdodaaRC
import Derived.Deep.MidRow
import Derived.Deep.CutRange
namespace Go.Proofs.Ytkoopagjjmdodaa
open Go.RowKit
set_option linter.unusedVariables false

theorem toList_nil {s : ByteArray} (h : s.size = 0) : s.toList = [] := by
  rw [ByteArray.toList_eq]
  have h2 : s.data.toList.length = s.size := by simp
  exact List.eq_nil_of_length_eq_zero (by omega)
theorem toList_cons {s : ByteArray} (h : 1 ≤ s.size) : ¬ s.toList = [] ∧ s.toList.isEmpty = false := by
  rw [ByteArray.toList_eq]
  have h2 : s.data.toList.length = s.size := by simp
  cases hl : s.data.toList with
  | nil => rw [hl, List.length_nil] at h2; omega
  | cons _ _ => simp
set_option maxHeartbeats 8000000 in
set_option maxRecDepth 100000 in
theorem refFormed_any (m : Msg) (w : World) (h1 : m.page.size ≤ 9223372036854775807) (h2 : m.data.size ≤ 9223372036854775807) :
    Calls Try.prog 20 #[.agg m.cells.toArray] w fun e w' => e = .returned (.bool (formedB m)) ∧ Chg (fun _ => False) w w' := by
  unfold Msg.cells
  have H1 : (m.page.size : Int) ≤ 9223372036854775807 := by omega
  have H2 : (m.data.size : Int) ≤ 9223372036854775807 := by omega
  clear h1 h2
  by_cases hn : 1 ≤ m.page.size ∧ m.page.size ≤ 200
  · obtain ⟨h0, h0b⟩ := toList_cons hn.1
    have hd2 : decide ((200 : Int) < (m.page.size : Int)) = false := by simp; omega
    have hn' : decide (1 ≤ m.page.size ∧ m.page.size ≤ 200) = true := by simpa using hn
    clear hn
    go_enter Try.func20, Try.ntmps20
    go_wp2_with fail
    all_goals (
      go_ret
      refine ⟨?_, Chg.alloc _ _ _⟩
      clear H1 H2
      show Ending.returned (.bool _) = _
      refine ret_b ?_
      unfold formedB Msg.headB Msg.tailB Msg.countedB
      rw [hn']
      clear hn'
      first | (simp_all; done) | (simp_all; omega) | (have h9 : m.index ≤ 19999 := (by omega); simp_all; done) | (have h9 : m.index ≤ 19999 := (by omega); simp_all; omega))
  · have hn' : decide (1 ≤ m.page.size ∧ m.page.size ≤ 200) = false := by simpa using hn
    by_cases hz : 1 ≤ m.page.size
    · obtain ⟨h0, h0b⟩ := toList_cons hz
      have hd2 : decide ((200 : Int) < (m.page.size : Int)) = true := by simp; omega
      clear hn hz
      go_enter Try.func20, Try.ntmps20
      go_wp2_with fail
      all_goals (
        go_ret
        refine ⟨?_, Chg.alloc _ _ _⟩
        clear H1 H2
        show Ending.returned (.bool _) = _
        refine ret_b ?_
        unfold formedB Msg.headB Msg.tailB Msg.countedB
        rw [hn']
        clear hn'
        first | (simp_all; done) | (simp_all; omega) | (have h9 : m.index ≤ 19999 := (by omega); simp_all; done) | (have h9 : m.index ≤ 19999 := (by omega); simp_all; omega))
    · have h0 : m.page.toList = [] := toList_nil (by omega)
      have h0b : m.page.toList.isEmpty = true := by rw [h0]; rfl
      clear hn hz
      go_enter Try.func20, Try.ntmps20
      go_wp2_with fail
      all_goals (
        go_ret
        refine ⟨?_, Chg.alloc _ _ _⟩
        clear H1 H2
        show Ending.returned (.bool _) = _
        refine ret_b ?_
        unfold formedB Msg.headB Msg.tailB Msg.countedB
        rw [hn']
        clear hn'
        first | (simp_all; done) | (simp_all; omega) | (have h9 : m.index ≤ 19999 := (by omega); simp_all; done) | (have h9 : m.index ≤ 19999 := (by omega); simp_all; omega))

end Go.Proofs.Ytkoopagjjmdodaa
namespace Go.Proofs.Ytkoopagjjmdodaa
open Go.RowKit
set_option linter.unusedVariables false
set_option linter.unusedSimpArgs false

/-- A world with the blocks S as they were before. -/
def patch (wx w : World) (S : List Nat) : World := { wx with heap := wx.heap.mapIdx fun k ob => if k ∈ S then (w.heap[k]?).getD ob else ob }
theorem patch_size (wx w : World) (S : List Nat) : (patch wx w S).heap.size = wx.heap.size := by
  show (wx.heap.mapIdx _).size = _
  simp
theorem patch_get (wx w : World) (S : List Nat) (k : Nat) : (patch wx w S).heap[k]? = (wx.heap[k]?).map fun ob => if k ∈ S then (w.heap[k]?).getD ob else ob := by
  show (wx.heap.mapIdx _)[k]? = _
  simp
theorem patch_out {wx w : World} {S : List Nat} {k : Nat} (h : k ∉ S) : (patch wx w S).heap[k]? = wx.heap[k]? := by
  rw [patch_get]
  simp [h]
theorem patch_chg {wx w : World} {S : List Nat} (hc : Chg (fun k => k ∈ S) w wx) : Chg (fun _ => False) w (patch wx w S) := by
  refine ⟨hc.os, hc.tape, hc.output, by rw [patch_size]; exact hc.size, fun k hk _ => ?_⟩
  by_cases hS : k ∈ S
  · rw [patch_get]
    have hx : k < wx.heap.size := Nat.lt_of_lt_of_le hk hc.size
    rw [Array.getElem?_eq_getElem hx, Array.getElem?_eq_getElem hk]
    simp [hS]
  · rw [patch_out hS]
    exact hc.block k hk hS
theorem setCell_congr {u v : World} {k : Nat} (h : u.heap[k]? = v.heap[k]?) (p : Addr) (x : Value) : (u.setCell p x).heap[k]? = (v.setCell p x).heap[k]? := by
  simp only [World.setCell, Array.getElem?_modify, h]
theorem setCells_congr (b k : Nat) : ∀ (vs : List Value) (o : Nat) (u v : World), u.heap[k]? = v.heap[k]? → (u.setCells b o vs).heap[k]? = (v.setCells b o vs).heap[k]?
  | [], _, _, _, h => h
  | x :: vs, o, u, v, h => setCells_congr b k vs (o + 1) _ _ (setCell_congr h _ x)
/-- A row in a cell. -/
theorem row_here {α : Type} {A : Rep α} {e : TypeId} {w : World} {b o : Nat} {v : Value} {l : List α} {F : List Nat} {c : Array Value} {T : TypeId} (hb : w.heap[b]? = some (.cells c T (0, 0))) (hv : w.cell? ⟨b, o, none⟩ = some v) (h : (A.row e).own w [v] l F) (nb : b ∉ F) (nd : F.Nodup) : Here (A.row e) w b o l F := by
  refine ⟨⟨c, T, hb, ?_⟩, nb, nd⟩
  have hc : c[o]? = some v := by simpa [World.cell?, hb] using hv
  have e1 : (c.toList.drop o).take 1 = [v] := by
    have hs : o < c.size := by
      rcases Nat.lt_or_ge o c.size with x | x
      · exact x
      · rw [Array.getElem?_eq_none x] at hc; cases hc
    rw [List.drop_eq_getElem_cons (by simpa using hs)]
    have : c[o] = v := by rw [Array.getElem?_eq_getElem hs] at hc; exact Option.some.inj hc
    simp [this]
  show (A.row e).own w ((c.toList.drop o).take 1) l F
  rw [e1]
  exact h
/-- A machine, its two rows. -/
structure Split (w : World) (b o : Nat) (h : Host) (F : List Nat) (vs vo : Value) (F1 F2 : List Nat) : Prop where
  here : Here hostR w b o h F
  id : w.cell? ⟨b, o, none⟩ = some (.int .i64 h.id)
  c1 : w.cell? ⟨b, o + 1, none⟩ = some vs
  c2 : w.cell? ⟨b, o + 2, none⟩ = some vo
  seats : seatsR.own w [vs] h.seats F1
  out : outR.own w [vo] h.out F2
  fp : F = F1 ++ F2
section
variable {w wx W : World} {b o : Nat} {h : Host} {F : List Nat} {vs vo : Value} {F1 F2 : List Nat}
theorem Split.of (H : Here hostR w b o h F) : ∃ vs vo F1 F2, Split w b o h F vs vo F1 F2 := by
  obtain ⟨vs, vo, c0, c1, c2, F1, F2, h1, h2, hF⟩ := hostCells H
  exact ⟨vs, vo, F1, F2, H, c0, c1, c2, h1, h2, hF⟩
theorem Split.nd (X : Split w b o h F vs vo F1 F2) : F1.Nodup ∧ F2.Nodup ∧ (∀ x ∈ F1, x ∉ F2) ∧ b ∉ F1 ∧ b ∉ F2 := by
  have h1 := X.here.nd
  have h2 := X.here.nb
  rw [X.fp, List.nodup_append] at h1
  rw [X.fp, List.mem_append] at h2
  exact ⟨h1.1, h1.2.1, fun x hx hy => h1.2.2 x hx x hy rfl, fun x => h2 (.inl x), fun x => h2 (.inr x)⟩
theorem Split.row (X : Split w b o h F vs vo F1 F2) : Here seatsR w b (o + 1) h.seats F1 := by
  obtain ⟨c, T, hb, -⟩ := X.here.box
  exact row_here hb X.c1 X.seats X.nd.2.2.2.1 X.nd.1
theorem Split.outs (X : Split w b o h F vs vo F1 F2) : Here outR w b (o + 2) h.out F2 := by
  obtain ⟨c, T, hb, -⟩ := X.here.box
  exact row_here hb X.c2 X.out X.nd.2.2.2.2 X.nd.2.1
theorem Split.lt (X : Split w b o h F vs vo F1 F2) : b < w.heap.size ∧ (∀ x ∈ F1, x < w.heap.size) ∧ ∀ x ∈ F2, x < w.heap.size := by
  have h1 := X.here.lt
  rw [X.fp] at h1
  exact ⟨h1.1, fun x hx => h1.2 x (List.mem_append_left _ hx), fun x hx => h1.2 x (List.mem_append_right _ hx)⟩
/-- The machine put together again. -/
theorem Split.join (X : Split w b o h F vs vo F1 F2) {seats' : List Seat} {out' : List Msg} {vs' vo' : Value} {G1 G2 : List Nat} (hid : W.cell? ⟨b, o, none⟩ = some (.int .i64 h.id)) (h1 : W.cell? ⟨b, o + 1, none⟩ = some vs') (h2 : W.cell? ⟨b, o + 2, none⟩ = some vo')
    (r1 : seatsR.own W [vs'] seats' G1) (r2 : outR.own W [vo'] out' G2) (hrest : ∀ c T, w.heap[b]? = some (.cells c T (0, 0)) → ∃ c', W.heap[b]? = some (.cells c' T (0, 0)) ∧ c'.size = c.size ∧ ∀ j, j < o ∨ o + 3 ≤ j → c'[j]? = c[j]?)
    (hchg : Chg (fun k => k = b ∨ k ∈ F) w W) (nd : (G1 ++ G2).Nodup) (new : ∀ k ∈ G1 ++ G2, k ∈ F ∨ w.heap.size ≤ k) : HostPost w b o { h with seats := seats', out := out' } F W := by
  obtain ⟨c, T, hb, -⟩ := X.here.box
  obtain ⟨c', hb', -, -⟩ := hrest c T hb
  refine ⟨G1 ++ G2, ⟨⟨c', T, hb', ?_⟩, fun hx => ?_, nd⟩, ⟨hchg, new, hrest⟩⟩
  · have e0 : c'[o]? = some (.int .i64 h.id) := by simpa [World.cell?, hb'] using hid
    have e1 : c'[o + 1]? = some vs' := by simpa [World.cell?, hb'] using h1
    have e2 : c'[o + 2]? = some vo' := by simpa [World.cell?, hb'] using h2
    have hs : o + 2 < c'.size := by
      rcases Nat.lt_or_ge (o + 2) c'.size with x | x
      · exact x
      · rw [Array.getElem?_eq_none x] at e2; cases e2
    have e : (c'.toList.drop o).take 3 = [.int .i64 h.id, vs', vo'] := by
      apply List.ext_getElem?
      intro i
      rw [List.getElem?_take]
      split
      · rename_i hi
        rw [List.getElem?_drop]
        have hx : ∀ j : Nat, c'[j]? = c'.toList[j]? := fun j => by simp
        rw [← hx]
        match i, hi with
        | 0, _ => exact e0
        | 1, _ => exact e1
        | 2, _ => exact e2
      · rename_i hi
        exact (List.getElem?_eq_none (by show 3 ≤ i; omega)).symm
    show hostR.own W ((c'.toList.drop o).take 3) _ _
    rw [e]
    exact ⟨vs', vo', G1, G2, rfl, r1, r2, rfl⟩
  · rcases new b hx with x | x
    · exact X.here.nb x
    · have := X.lt.1; omega
/-- While messages are sent. -/
structure Mids (w wx : World) (b o : Nat) (out' : List Msg) (F2 G2 : List Nat) : Prop where
  out : Here outR wx b (o + 2) out' G2
  step : Step w wx b (o + 2) 1 F2 G2
theorem Mids.start (X : Split w b o h F vs vo F1 F2) (hc : Chg (fun _ => False) w wx) : Mids w wx b o h.out F2 F2 := ⟨X.outs.still hc, Step.ofChg hc⟩
theorem Mids.still {w' : World} {out' : List Msg} {G2 : List Nat} (M : Mids w wx b o out' F2 G2) (hc : Chg (fun _ => False) wx w') : Mids w w' b o out' F2 G2 := ⟨M.out.still hc, M.step.trans (Step.ofChg hc)⟩
theorem Mids.sent {w' : World} {out' out2 : List Msg} {G2 : List Nat} (M : Mids w wx b o out' F2 G2) (hp : PutPost wx b o out2 G2 w') : ∃ G3, Mids w w' b o out2 F2 G3 ∧ ∀ x ∈ G3, x ∈ G2 ∨ wx.heap.size ≤ x := by
  obtain ⟨G3, h1, h2⟩ := hp
  exact ⟨G3, ⟨h1, M.step.trans h2⟩, h2.new⟩
theorem Mids.apart {out' : List Msg} {G2 : List Nat} (M : Mids w wx b o out' F2 G2) (X : Split w b o h F vs vo F1 F2) : ∀ x ∈ F1, x ∉ G2 ∧ x ∉ F2 ∧ x ≠ b := fun x hx => ⟨fun hy => by
    rcases M.step.new x hy with z | z
    · exact X.nd.2.2.1 x hx z
    · have := X.lt.2.1 x hx; omega, X.nd.2.2.1 x hx, fun e => X.nd.2.2.2.1 (e ▸ hx)⟩
theorem Mids.cells {out' : List Msg} {G2 : List Nat} (M : Mids w wx b o out' F2 G2) (X : Split w b o h F vs vo F1 F2) : wx.cell? ⟨b, o, none⟩ = some (.int .i64 h.id) ∧ wx.cell? ⟨b, o + 1, none⟩ = some vs :=
  ⟨M.step.cell X.id X.nd.2.2.2.2 (fun _ => by omega) X.outs.boxed, M.step.cell X.c1 X.nd.2.2.2.2 (fun _ => by omega) X.outs.boxed⟩
theorem Mids.old {out' : List Msg} {G2 : List Nat} (M : Mids w wx b o out' F2 G2) {k : Nat} (hk : k < w.heap.size) (h1 : k ≠ b) (h2 : k ∉ F2) : wx.heap[k]? = w.heap[k]? := M.step.chg.block k hk (fun x => x.elim h1 h2)
/-- Nothing else was done. -/
theorem Mids.done {out' : List Msg} {G2 : List Nat} (M : Mids w wx b o out' F2 G2) (X : Split w b o h F vs vo F1 F2) : HostPost w b o { h with out := out' } F wx := by
  obtain ⟨d0, d1⟩ := M.cells X
  obtain ⟨vo', xs, Fs, d2, hop⟩ := M.out.openRow
  have hfp : ∀ x ∈ F1, ¬ (x = b ∨ x ∈ F2) := fun x hx y => y.elim (M.apart X x hx).2.2 (M.apart X x hx).2.1
  refine X.join (seats' := h.seats) (G1 := F1) (G2 := G2) d0 d1 d2 (seatsR.chg X.seats M.step.chg hfp) hop.own (fun c T hb => ?_) (M.step.chg.mono fun i hi x => ?_) ?_ (fun k hk => ?_)
  · obtain ⟨c', e1, e2, e3⟩ := M.step.rest c T hb
    exact ⟨c', e1, e2, fun j hj => e3 j (by omega)⟩
  · rcases x with x | x
    · exact .inl x
    · exact .inr (by rw [X.fp]; exact List.mem_append_right _ x)
  · rw [List.nodup_append]
    exact ⟨X.nd.1, M.out.nd, fun x hx y hy e => (M.apart X x hx).1 (e ▸ hy)⟩
  · rw [List.mem_append] at hk
    rw [X.fp, List.mem_append]
    rcases hk with hk | hk
    · exact .inl (.inl hk)
    · rcases M.step.new k hk with x | x
      · exact .inl (.inr x)
      · exact .inr x
/-- A seat stored as a whole, behind messages. -/
theorem Split.set (X : Split w b o h F vs vo F1 F2) {g off n cap j : Nat} (hvs : vs = .slice (some ⟨g, off, none⟩) n cap) (hj : j < h.seats.length) :
    g ∈ F1 ∧ ∃ Gj, Here seatR w g (off + j * 8) h.seats[j] Gj ∧ (∀ x ∈ Gj, x ∈ F1) ∧ ∀ wx out' G2 cs y Gn, Mids w wx b o out' F2 G2 → seatR.own wx cs y Gn → Gn.Nodup → (∀ k ∈ Gn, (k ∈ Gj ∨ w.heap.size ≤ k) ∧ k ∉ G2) →
      HostPost w b o { h with seats := h.seats.set j y, out := out' } F (wx.setCells g (off + j * 8) cs) := by
  subst hvs
  obtain ⟨g', off', cap', q1, -, -, q4, q5, q6⟩ := X.row.elemX (by omega)
  rw [X.c1] at q1
  simp only [Option.some.injEq, Value.slice.injEq, Addr.mk.injEq, and_true] at q1
  obtain ⟨⟨rfl, rfl⟩, rfl, rfl⟩ := q1
  obtain ⟨Gj, r1, r2, r3⟩ := q6 j hj
  refine ⟨q5, Gj, r1, r2, fun wx out' G2 cs y Gn M hy hnd hGn => ?_⟩
  have hchS : Chg (fun k => k ∈ b :: F2) w wx := M.step.chg.mono (fun i hi x => by rw [List.mem_cons]; exact x)
  have hpc := patch_chg hchS
  have hGF : ∀ k ∈ Gn, k ∉ b :: F2 := fun k hk hx => by
    rcases (hGn k hk).1 with z | z
    · rcases List.mem_cons.1 hx with e | e
      · exact (M.apart X k (r2 k z)).2.2 e
      · exact (M.apart X k (r2 k z)).2.1 e
    · rcases List.mem_cons.1 hx with e | e
      · have := X.lt.1; omega
      · have := X.lt.2.2 k e; omega
  have hyV : seatR.own (patch wx w (b :: F2)) cs y Gn := seatR.keep hy (fun k hk ob ho => by rw [patch_out (hGF k hk)]; exact ho)
  obtain ⟨HS, SS⟩ := r1.putAll (hpc.mono (fun _ _ x => x.elim)) (by show 0 < 8; decide) hyV hnd (fun k hk => (hGn k hk).1)
  obtain ⟨G1, p1, p2, p3⟩ := r3 _ _ _ HS SS
  have hg : g ∉ b :: F2 := fun hx => by
    rcases List.mem_cons.1 hx with e | e
    · exact (M.apart X g q5).2.2 e
    · exact (M.apart X g q5).2.1 e
  have hgG : g ∉ G2 := (M.apart X g q5).1
  have hG1 : ∀ k ∈ G1, k ∉ b :: F2 := fun k hk => by
    rcases p3 k hk with z | z
    · exact hGF k z
    · intro hx
      rcases List.mem_cons.1 hx with e | e
      · exact (M.apart X k z.1).2.2 e
      · exact (M.apart X k z.1).2.1 e
  obtain ⟨vs2, xs2, Fs2, d1, hop⟩ := p1.openRow
  have hset := Chg.setCells (b := g) cs wx (off + j * 8)
  have hd1 : ((patch wx w (b :: F2)).setCells g (off + j * 8) cs).cell? ⟨b, o + 1, none⟩ = some (.slice (some ⟨g, off, none⟩) h.seats.length cap) :=
    SS.cellNe X.c1 (fun hx => X.nd.2.2.2.1 (r2 b hx)) (fun e => q4 e.symm)
  replace d1 : ((patch wx w (b :: F2)).setCells g (off + j * 8) cs).cell? ⟨b, o + 1, none⟩ = some vs2 := d1
  rw [hd1] at d1
  cases d1
  obtain ⟨e0, e1⟩ := M.cells X
  obtain ⟨vo', xs, Fs, e2, hopo⟩ := M.out.openRow
  have hbg : (⟨b, o, none⟩ : Addr).block ≠ g := fun e => q4 e.symm
  refine X.join (seats' := h.seats.set j y) (G1 := G1) (G2 := G2) (hset.cellNo e0 (fun e => q4 e.symm)) (hset.cellNo e1 (fun e => q4 e.symm)) (hset.cellNo e2 (fun e => q4 e.symm)) (seatsR.keep hop.own (fun k hk ob ho => ?_)) (outR.chg hopo.own hset (fun k hk e => ?_)) (fun c T hb => ?_) ?_ ?_ (fun k hk => ?_)
  · rw [← ho]
    exact (setCells_congr g k cs _ _ _ (patch_out (hG1 k hk))).symm
  · have e' : k = g := e
    exact hgG (e' ▸ hk)
  · obtain ⟨c', f1, f2, f3⟩ := M.step.rest c T hb
    exact ⟨c', hset.keep f1 (fun e => q4 e.symm), f2, fun j hj => f3 j (by omega)⟩
  · refine (M.step.chg.mono (S' := fun k => k = b ∨ k ∈ F) fun i hi x => ?_).trans hset (fun _ _ x => x) (fun i hi x => ?_)
    · rcases x with x | x
      · exact .inl x
      · exact .inr (by rw [X.fp]; exact List.mem_append_right _ x)
    · have x' : i = g := x
      exact .inr (by rw [X.fp, x']; exact List.mem_append_left _ q5)
  · rw [List.nodup_append]
    refine ⟨p1.nd, M.out.nd, fun x hx y hy e => ?_⟩
    subst e
    rcases p3 x hx with z | z
    · exact (hGn x z).2 hy
    · exact (M.apart X x z.1).1 hy
  · rw [List.mem_append] at hk
    rw [X.fp, List.mem_append]
    rcases hk with hk | hk
    · rcases p3 k hk with z | z
      · rcases (hGn k z).1 with y | y
        · exact .inl (.inl (r2 k y))
        · exact .inr y
      · exact .inl (.inl z.1)
    · rcases M.step.new k hk with x | x
      · exact .inl (.inr x)
      · exact .inr x
/-- A seat put behind the others, behind messages. -/
theorem Split.push (X : Split w b o h F vs vo F1 F2) : ∃ xs : List (List Value), (∀ wx out' G2, Mids w wx b o out' F2 G2 → RowAt wx 67 8 vs h.seats.length xs.flatten) ∧
    ∀ wx out' G2 cs y Gn w1 w3 v2, Mids w wx b o out' F2 G2 → Chg (fun _ => False) wx w1 → seatR.own wx cs y Gn → Gn.Nodup → (∀ k ∈ Gn, w.heap.size ≤ k ∧ k ∉ G2) → RowAt w3 67 8 v2 (h.seats.length + 1) (xs.flatten ++ cs) →
      Chg (fun k => vs.ownBlock = some k) w1 w3 → (∀ k, v2.ownBlock = some k → vs.ownBlock = some k ∨ w1.heap.size ≤ k) → HostPost w b o { h with seats := h.seats ++ [y], out := out' } F (w3.setCell ⟨b, o + 1, none⟩ v2) := by
  obtain ⟨xs, Fs, hop⟩ := Rep.opened X.seats
  have hown : ∀ k, vs.ownBlock = some k → k ∈ F1 := fun k hk => by rw [hop.fp]; exact List.mem_append_left _ (mem_ownL.2 hk)
  have hFs : ∀ k ∈ Fs.flatten, k ∈ F1 := fun k hk => by rw [hop.fp]; exact List.mem_append_right _ hk
  have hnd1 := X.nd.1
  rw [hop.fp, List.nodup_append] at hnd1
  refine ⟨xs, fun wx out' G2 M => hop.row.chg M.step.chg (fun k hk y => y.elim (M.apart X k (hown k hk)).2.2 (M.apart X k (hown k hk)).2.1), fun wx out' G2 cs y Gn w1 w3 v2 M hc hy hnd hGn hr hch hold => ?_⟩
  have hsz0 := M.step.chg.size
  have hsz1 := hc.size
  have hv2b : ∀ k, v2.ownBlock = some k → k ≠ b := fun k hk e => by
    rcases hold k hk with z | z
    · exact (M.apart X k (hown k z)).2.2 e
    · have := X.lt.1; omega
  have hbv : ¬ vs.ownBlock = some b := fun hk => X.nd.2.2.2.1 (hown b hk)
  have hset := Chg.setCell w3 ⟨b, o + 1, none⟩ v2
  have hGlt := seatR.lt hy
  have hkeepF : ∀ k ∈ Fs.flatten, ∀ ob, w.heap[k]? = some ob → (w3.setCell ⟨b, o + 1, none⟩ v2).heap[k]? = some ob := fun k hk ob ho => by
    have hk1 := hFs k hk
    have h1 := M.step.chg.keep ho (fun z => z.elim (M.apart X k hk1).2.2 (M.apart X k hk1).2.1)
    have h2 := hc.keep h1 (fun z => z)
    have h3 := hch.keep h2 (fun z => hnd1.2.2 k (mem_ownL.2 z) k hk rfl)
    exact hset.keep h3 (fun z => (M.apart X k hk1).2.2 z)
  have hyW : seatR.own (w3.setCell ⟨b, o + 1, none⟩ v2) cs y Gn := by
    have h1 := seatR.chg hy hc (fun _ _ x => x)
    have h2 := seatR.chg h1 hch (fun k hk z => by have h3 := X.lt.2.1 k (hown k z); have h4 := (hGn k hk).1; omega)
    exact seatR.chg h2 hset (fun k hk z => by have z' : k = b := z; have h3 := X.lt.1; have h4 := (hGn k hk).1; omega)
  obtain ⟨e0, e1⟩ := M.cells X
  obtain ⟨vo', ys, Fo, e2, hopo⟩ := M.out.openRow
  obtain ⟨c, T, hb, -⟩ := X.here.box
  obtain ⟨c', f1, f2, f3⟩ := M.step.rest c T hb
  have f4 : w3.heap[b]? = some (.cells c' T (0, 0)) := hch.keep (hc.keep f1 (fun z => z)) hbv
  have f5 := setCell_block (i := o + 1) v2 f4
  have i0 : c'[o]? = some (.int .i64 h.id) := by simpa [World.cell?, f1] using e0
  have i1 : c'[o + 1]? = some vs := by simpa [World.cell?, f1] using e1
  have i2 : c'[o + 2]? = some vo' := by simpa [World.cell?, f1] using e2
  have hs1 : o + 1 < c'.size := by
    rcases Nat.lt_or_ge (o + 1) c'.size with x | x
    · exact x
    · rw [Array.getElem?_eq_none x] at i1; cases i1
  have hlen : (h.seats ++ [y]).length = h.seats.length + 1 := by simp
  have hfl : (xs ++ [cs]).flatten = xs.flatten ++ cs := by simp
  have hopW : RowOpen seatR 67 (w3.setCell ⟨b, o + 1, none⟩ v2) v2 (h.seats ++ [y]) (ownL v2 ++ (Fs ++ [Gn]).flatten) (xs ++ [cs]) (Fs ++ [Gn]) :=
    ⟨by rw [hlen, hfl]; exact hr.chg hset (fun k hk z => hv2b k hk z), (hop.each.keep hkeepF).append (.cons hyW .nil), rfl⟩
  have hG2lt := M.out.lt.2
  have hv2F : ∀ k, v2.ownBlock = some k → k ∉ Fs.flatten ∧ k ∉ Gn ∧ k ∉ G2 := fun k hk => by
    rcases hold k hk with z | z
    · refine ⟨fun x => hnd1.2.2 k (mem_ownL.2 z) k x rfl, fun x => ?_, (M.apart X k (hown k z)).1⟩
      have := X.lt.2.1 k (hown k z)
      have := (hGn k x).1
      omega
    · refine ⟨fun x => ?_, fun x => ?_, fun x => ?_⟩
      · have := X.lt.2.1 k (hFs k x); omega
      · have := hGlt k x; omega
      · have := hG2lt k x; omega
  have nd1 : (ownL v2).Nodup := by unfold ownL; cases v2.ownBlock <;> simp
  refine X.join (seats' := h.seats ++ [y]) (vs' := v2) (vo' := vo') (G1 := ownL v2 ++ (Fs ++ [Gn]).flatten) (G2 := G2) (cell_of_block f5 ?_) (cell_of_block f5 ?_) (cell_of_block f5 ?_) hopW.own ?_ (fun c0 T0 hb0 => ?_) ?_ ?_ (fun k hk => ?_)
  · rw [Array.getElem?_setIfInBounds_ne (by omega)]; exact i0
  · rw [Array.getElem?_setIfInBounds_self_of_lt hs1]
  · rw [Array.getElem?_setIfInBounds_ne (by omega)]; exact i2
  · have h1 := outR.chg hopo.own hc (fun _ _ x => x)
    have h2 := outR.chg h1 hch (fun k hk z => (M.apart X k (hown k z)).1 hk)
    exact outR.chg h2 hset (fun k hk z => M.out.nb (by have z' : k = b := z; rwa [z'] at hk))
  · rw [hb] at hb0
    cases hb0
    exact ⟨_, f5, by rw [Array.size_setIfInBounds]; exact f2, fun j hj => by rw [Array.getElem?_setIfInBounds_ne (by omega)]; exact f3 j (by omega)⟩
  · have a1 := M.step.chg.mono (S' := fun k => k = b ∨ k ∈ F) fun i hi x => by
      rcases x with x | x
      · exact .inl x
      · exact .inr (by rw [X.fp]; exact List.mem_append_right _ x)
    have a2 := a1.trans (S'' := fun k => k = b ∨ k ∈ F) hc (fun _ _ x => x) (fun _ _ x => x.elim)
    have a3 := a2.trans (S'' := fun k => k = b ∨ k ∈ F) hch (fun _ _ x => x) (fun i hi x => .inr (by rw [X.fp]; exact List.mem_append_left _ (hown i x)))
    exact a3.trans hset (fun _ _ x => x) (fun i hi x => .inl x)
  · rw [List.flatten_append, List.append_assoc, List.append_assoc, List.nodup_append, List.nodup_append]
    have hGf : [Gn].flatten = Gn := by simp
    rw [hGf]
    refine ⟨nd1, ⟨hnd1.2.1, ?_, fun x hx z hz e => ?_⟩, fun x hx z hz e => ?_⟩
    · rw [List.nodup_append]
      exact ⟨hnd, M.out.nd, fun x hx z hz e => (hGn x hx).2 (e ▸ hz)⟩
    · subst e
      rcases List.mem_append.1 hz with q | q
      · have := X.lt.2.1 x (hFs x hx)
        have := (hGn x q).1
        omega
      · exact (M.apart X x (hFs x hx)).1 q
    · subst e
      have hq := hv2F x (mem_ownL.1 hx)
      rcases List.mem_append.1 hz with q | q
      · exact hq.1 q
      · rcases List.mem_append.1 q with q | q
        · exact hq.2.1 q
        · exact hq.2.2 q
  · rw [List.mem_append, List.mem_append, List.flatten_append, List.mem_append] at hk
    rw [X.fp, List.mem_append]
    have hGf : [Gn].flatten = Gn := by simp
    rw [hGf] at hk
    rcases hk with (hk | hk | hk) | hk
    · rcases hold k (mem_ownL.1 hk) with z | z
      · exact .inl (.inl (hown k z))
      · exact .inr (by omega)
    · exact .inl (.inl (hFs k hk))
    · exact .inr (hGn k hk).1
    · rcases M.step.new k hk with x | x
      · exact .inl (.inr x)
      · exact .inr x
end
end Go.Proofs.Ytkoopagjjmdodaa
namespace Go.Proofs.Ytkoopagjjmdodaa
open Go.RowKit
set_option linter.unusedVariables false
set_option linter.unusedSimpArgs false

/-- The cells of a seat, as a row. -/
def seatL (s : Seat) (v5 v6 v7 : Value) : List Value := [.string s.page, .int .i64 s.state, .int .i64 s.epoch, .int .i64 s.peer, .string s.letter, v5, v6, v7]
/-- While Receive works on its copy of a seat. -/
structure Rv (w wx : World) (b o : Nat) (m : Msg) (out' : List Msg) (F2 G2 : List Nat) (sb : Nat) (s : Seat) (v5 v6 v7 : Value) (Gj Gn : List Nat) : Prop where
  mids : Mids w wx b o out' F2 G2
  msg : wx.heap[w.heap.size]? = some (.cells #[.int .i64 m.kind, .int .i64 m.frm, .int .i64 m.dst, .string m.page, .int .i64 m.epoch, .int .i64 m.index, .int .i64 m.count, .string m.data] 39 (0, 0))
  box : wx.heap[sb]? = some (.cells #[.string s.page, .int .i64 s.state, .int .i64 s.epoch, .int .i64 s.peer, .string s.letter, v5, v6, v7] 67 (0, 0))
  lo : w.heap.size < sb
  out : sb ∉ G2 ∧ w.heap.size ∉ G2
  own : seatR.own wx [.string s.page, .int .i64 s.state, .int .i64 s.epoch, .int .i64 s.peer, .string s.letter, v5, v6, v7] s Gn
  nd : Gn.Nodup
  src : ∀ k ∈ Gn, (k ∈ Gj ∨ w.heap.size ≤ k) ∧ k ∉ G2 ∧ k ≠ sb
/-- What is known where the seat's footprint comes from. -/
def SeatSrc (w : World) (h : Host) (m : Msg) (vs : Value) (F1 Gj : List Nat) : Prop :=
  (∀ x ∈ Gj, x ∈ F1) ∧ match findS m.page h.seats 0 with
  | none => Gj = []
  | some j => ∃ g off n cap, ∃ hj : j < h.seats.length, vs = .slice (some ⟨g, off, none⟩) n cap ∧ g ∈ F1 ∧ Here seatR w g (off + j * 8) h.seats[j] Gj
theorem flat_one {α β : Type} (f : α → β) : ∀ l : List α, l.flatMap (fun s => [f s]) = l.map f
  | [] => rfl
  | a :: l => by rw [List.flatMap_cons, flat_one f l]; rfl
theorem seat_own {wx : World} {y : Seat} {v5 v6 v7 : Value} (h5 : RowAt wx 9 1 v5 y.parts.length (y.parts.map Value.string)) (h6 : RowAt wx 4 1 v6 y.have_.length (y.have_.map Value.bool)) (h7 : RowAt wx 3 1 v7 y.refuses.length (y.refuses.map (Value.int .i64))) :
    seatR.own wx [.string y.page, .int .i64 y.state, .int .i64 y.epoch, .int .i64 y.peer, .string y.letter, v5, v6, v7] y ((ownL v5 ++ ownL v6) ++ ownL v7) :=
  ⟨v5, v6, v7, ownL v5, ownL v6, ownL v7, rfl, row_flat.2 ⟨v5, rfl, by rw [flat_one]; exact h5, rfl⟩, row_flat.2 ⟨v6, rfl, by rw [flat_one]; exact h6, rfl⟩, row_flat.2 ⟨v7, rfl, by rw [flat_one]; exact h7, rfl⟩, rfl⟩
theorem seat_rows {wx : World} {y : Seat} {v5 v6 v7 : Value} {G : List Nat} (h : seatR.own wx [.string y.page, .int .i64 y.state, .int .i64 y.epoch, .int .i64 y.peer, .string y.letter, v5, v6, v7] y G) :
    RowAt wx 9 1 v5 y.parts.length (y.parts.map Value.string) ∧ RowAt wx 4 1 v6 y.have_.length (y.have_.map Value.bool) ∧ RowAt wx 3 1 v7 y.refuses.length (y.refuses.map (Value.int .i64)) ∧ G = (ownL v5 ++ ownL v6) ++ ownL v7 := by
  obtain ⟨v5', v6', v7', F5, F6, F7, he, k5, k6, k7, hG⟩ := h
  cases he
  obtain ⟨u5, e5, r5, q5⟩ := row_flat.1 k5
  obtain ⟨u6, e6, r6, q6⟩ := row_flat.1 k6
  obtain ⟨u7, e7, r7, q7⟩ := row_flat.1 k7
  cases e5
  cases e6
  cases e7
  rw [flat_one] at r5 r6 r7
  exact ⟨r5, r6, r7, by rw [hG, q5, q6, q7]⟩
theorem seat_fp {w : World} {g so : Nat} {s : Seat} {G G' : List Nat} (H : Here seatR w g so s G) (H' : Here seatR w g so s G') : G = G' := by
  obtain ⟨c, T, v5, v6, v7, hb, -, hown, -, -, -, -, -, q5, q6, q7⟩ := seatBlock H
  obtain ⟨c', T', u5, u6, u7, hb', -, hown', -, -, -, -, -, p5, p6, p7⟩ := seatBlock H'
  rw [hb] at hb'
  cases hb'
  rw [q5] at p5
  rw [q6] at p6
  rw [q7] at p7
  cases p5
  cases p6
  cases p7
  rw [(seat_rows hown).2.2.2, (seat_rows hown').2.2.2]
section
variable {w wx w' : World} {b o sb : Nat} {h : Host} {m : Msg} {F F1 F2 G2 Gj Gn : List Nat} {vs vo v5 v6 v7 : Value} {s : Seat} {out' : List Msg}
theorem Mids.fresh (M : Mids w wx b o out' F2 G2) (X : Split w b o h F vs vo F1 F2) (hc : Chg (· = sb) wx w') (h1 : w.heap.size ≤ sb) (h2 : sb ∉ G2) : Mids w w' b o out' F2 G2 := by
  have hb := X.lt.1
  refine ⟨M.out.chg hc (by show ¬ b = sb; omega) (fun x hx e => h2 (by have e' : x = sb := e; rwa [e'] at hx)), ⟨M.step.chg.trans hc (fun _ _ x => x) (fun i hi x => by have x' : i = sb := x; omega), M.step.new, fun c T hbk => ?_⟩⟩
  obtain ⟨c', f1, f2, f3⟩ := M.step.rest c T hbk
  exact ⟨c', hc.keep f1 (by show ¬ b = sb; omega), f2, f3⟩
theorem Rv.still (R : Rv w wx b o m out' F2 G2 sb s v5 v6 v7 Gj Gn) (hc : Chg (fun _ => False) wx w') : Rv w w' b o m out' F2 G2 sb s v5 v6 v7 Gj Gn :=
  ⟨R.mids.still hc, hc.keep R.msg (fun x => x), hc.keep R.box (fun x => x), R.lo, R.out, seatR.chg R.own hc (fun _ _ x => x), R.nd, R.src⟩
/-- Behind a message. -/
theorem Rv.sent (R : Rv w wx b o m out' F2 G2 sb s v5 v6 v7 Gj Gn) (X : Split w b o h F vs vo F1 F2) (hG : ∀ x ∈ Gj, x ∈ F1) {out2 : List Msg} (hp : PutPost wx b o out2 G2 w') : ∃ G3, Rv w w' b o m out2 F2 G3 sb s v5 v6 v7 Gj Gn := by
  obtain ⟨G3, M3, hn⟩ := R.mids.sent hp
  obtain ⟨G3', -, hst⟩ := hp
  have hb := X.lt.1
  have hno : ∀ k, k ≠ b → k ∉ G2 → ¬ (k = b ∨ k ∈ G2) := fun k h1 h2 x => x.elim h1 h2
  have hlo := R.lo
  have hsz := lt_of_block R.box
  have hsz2 := lt_of_block R.msg
  refine ⟨G3, M3, hst.chg.keep R.msg (hno _ (by omega) R.out.2), hst.chg.keep R.box (hno _ (by omega) R.out.1), R.lo, ⟨fun x => ?_, fun x => ?_⟩, seatR.chg R.own hst.chg (fun k hk => hno k (fun e => ?_) (R.src k hk).2.1), R.nd, fun k hk => ⟨(R.src k hk).1, fun x => ?_, (R.src k hk).2.2⟩⟩
  · rcases hn _ x with y | y
    · exact R.out.1 y
    · omega
  · rcases hn _ x with y | y
    · exact R.out.2 y
    · omega
  · rcases (R.src k hk).1 with y | y
    · exact X.nd.2.2.2.1 (e ▸ hG k y)
    · omega
  · rcases hn _ x with y | y
    · exact (R.src k hk).2.1 y
    · have := seatR.lt R.own k hk; omega
/-- A row's blocks. -/
theorem own3 {u5 u6 u7 : Value} (h56 : ∀ k, u5.ownBlock = some k → ¬ u6.ownBlock = some k) (h57 : ∀ k, u5.ownBlock = some k → ¬ u7.ownBlock = some k) (h67 : ∀ k, u6.ownBlock = some k → ¬ u7.ownBlock = some k) : ((ownL u5 ++ ownL u6) ++ ownL u7).Nodup := by
  have nd1 : ∀ v : Value, (ownL v).Nodup := fun v => by unfold ownL; cases v.ownBlock <;> simp
  rw [List.nodup_append, List.nodup_append]
  refine ⟨⟨nd1 _, nd1 _, fun x hx y hy e => ?_⟩, nd1 _, fun x hx y hy e => ?_⟩
  · subst e; exact h56 x (mem_ownL.1 hx) (mem_ownL.1 hy)
  · subst e
    rcases List.mem_append.1 hx with z | z
    · exact h57 x (mem_ownL.1 z) (mem_ownL.1 hy)
    · exact h67 x (mem_ownL.1 z) (mem_ownL.1 hy)
theorem own_none {c n : Nat} {p : Nat → Prop} : ∀ k, (Value.slice none n c).ownBlock = some k → p k := fun k h => by cases h
theorem Rv.dis (R : Rv w wx b o m out' F2 G2 sb s v5 v6 v7 Gj Gn) : (∀ k, v5.ownBlock = some k → ¬ v6.ownBlock = some k) ∧ (∀ k, v5.ownBlock = some k → ¬ v7.ownBlock = some k) ∧ (∀ k, v6.ownBlock = some k → ¬ v7.ownBlock = some k) := by
  have h := R.nd
  rw [(seat_rows R.own).2.2.2, List.nodup_append, List.nodup_append] at h
  exact ⟨fun k h1 h2 => h.1.2.2 k (mem_ownL.2 h1) k (mem_ownL.2 h2) rfl, fun k h1 h2 => h.2.2 k (List.mem_append_left _ (mem_ownL.2 h1)) k (mem_ownL.2 h2) rfl, fun k h1 h2 => h.2.2 k (List.mem_append_right _ (mem_ownL.2 h1)) k (mem_ownL.2 h2) rfl⟩
theorem Rv.old (R : Rv w wx b o m out' F2 G2 sb s v5 v6 v7 Gj Gn) : (∀ k, v5.ownBlock = some k → k < wx.heap.size) ∧ (∀ k, v6.ownBlock = some k → k < wx.heap.size) ∧ (∀ k, v7.ownBlock = some k → k < wx.heap.size) := by
  obtain ⟨r5, r6, r7, -⟩ := seat_rows R.own
  exact ⟨r5.lt, r6.lt, r7.lt⟩
/-- The copy stored anew, with rows that are new or those of before. -/
theorem Rv.next (R : Rv w wx b o m out' F2 G2 sb s v5 v6 v7 Gj Gn) (X : Split w b o h F vs vo F1 F2) {y : Seat} {u5 u6 u7 : Value} (hc : Chg (· = sb) wx w') (hb : w'.heap[sb]? = some (.cells #[.string y.page, .int .i64 y.state, .int .i64 y.epoch, .int .i64 y.peer, .string y.letter, u5, u6, u7] 67 (0, 0)))
    (h5 : RowAt w' 9 1 u5 y.parts.length (y.parts.map Value.string)) (h6 : RowAt w' 4 1 u6 y.have_.length (y.have_.map Value.bool)) (h7 : RowAt w' 3 1 u7 y.refuses.length (y.refuses.map (Value.int .i64)))
    (o5 : ∀ k, u5.ownBlock = some k → v5.ownBlock = some k ∨ wx.heap.size ≤ k) (o6 : ∀ k, u6.ownBlock = some k → v6.ownBlock = some k ∨ wx.heap.size ≤ k) (o7 : ∀ k, u7.ownBlock = some k → v7.ownBlock = some k ∨ wx.heap.size ≤ k)
    (h56 : ∀ k, u5.ownBlock = some k → ¬ u6.ownBlock = some k) (h57 : ∀ k, u5.ownBlock = some k → ¬ u7.ownBlock = some k) (h67 : ∀ k, u6.ownBlock = some k → ¬ u7.ownBlock = some k) : ∃ Gn', Rv w w' b o m out' F2 G2 sb y u5 u6 u7 Gj Gn' := by
  have hG := (seat_rows R.own).2.2.2
  have hsz := lt_of_block R.box
  have hsz2 := R.mids.step.chg.size
  have hnew : ∀ k, wx.heap.size ≤ k → (k ∈ Gj ∨ w.heap.size ≤ k) ∧ k ∉ G2 ∧ k ≠ sb := fun k hk => ⟨.inr (by omega), fun x => by have := R.mids.out.lt.2 k x; omega, by omega⟩
  refine ⟨(ownL u5 ++ ownL u6) ++ ownL u7, R.mids.fresh X hc (Nat.le_of_lt R.lo) R.out.1, hc.keep R.msg (by show ¬ w.heap.size = sb; have := R.lo; omega), hb, R.lo, R.out, seat_own h5 h6 h7, own3 h56 h57 h67, fun k hk => ?_⟩
  rcases List.mem_append.1 hk with z | z
  · rcases List.mem_append.1 z with z | z
    · rcases o5 k (mem_ownL.1 z) with q | q
      · exact R.src k (by rw [hG]; exact List.mem_append_left _ (List.mem_append_left _ (mem_ownL.2 q)))
      · exact hnew k q
    · rcases o6 k (mem_ownL.1 z) with q | q
      · exact R.src k (by rw [hG]; exact List.mem_append_left _ (List.mem_append_right _ (mem_ownL.2 q)))
      · exact hnew k q
  · rcases o7 k (mem_ownL.1 z) with q | q
    · exact R.src k (by rw [hG]; exact List.mem_append_right _ (mem_ownL.2 q))
    · exact hnew k q
/-- The copy stored anew, without parts. -/
theorem Rv.bare (R : Rv w wx b o m out' F2 G2 sb s v5 v6 v7 Gj Gn) (X : Split w b o h F vs vo F1 F2) {y : Seat} (hc : Chg (· = sb) wx w') (hb : w'.heap[sb]? = some (.cells #[.string y.page, .int .i64 y.state, .int .i64 y.epoch, .int .i64 y.peer, .string y.letter, .slice none 0 0, .slice none 0 0, v7] 67 (0, 0)))
    (h5 : y.parts = []) (h6 : y.have_ = []) (h7 : y.refuses = s.refuses) : ∃ Gn', Rv w w' b o m out' F2 G2 sb y (.slice none 0 0) (.slice none 0 0) v7 Gj Gn' := by
  refine R.next X hc hb (by rw [h5]; exact RowAt.nil _ _ _) (by rw [h6]; exact RowAt.nil _ _ _) ?_ own_none own_none (fun k hk => .inl hk) own_none own_none own_none
  rw [h7]
  refine (seat_rows R.own).2.2.1.chg hc fun k hk e => ?_
  exact (R.src k (by rw [(seat_rows R.own).2.2.2]; exact List.mem_append_right _ (mem_ownL.2 hk))).2.2 e
/-- A row of the copy behind a change of the copy. -/
theorem Rv.keep7 (R : Rv w wx b o m out' F2 G2 sb s v5 v6 v7 Gj Gn) (hc : Chg (· = sb) wx w') : RowAt w' 3 1 v7 s.refuses.length (s.refuses.map (Value.int .i64)) :=
  (seat_rows R.own).2.2.1.chg hc fun k hk e => (R.src k (by rw [(seat_rows R.own).2.2.2]; exact List.mem_append_right _ (mem_ownL.2 hk))).2.2 e
theorem Rv.keep5 (R : Rv w wx b o m out' F2 G2 sb s v5 v6 v7 Gj Gn) (hc : Chg (· = sb) wx w') : RowAt w' 9 1 v5 s.parts.length (s.parts.map Value.string) :=
  (seat_rows R.own).1.chg hc fun k hk e => (R.src k (by rw [(seat_rows R.own).2.2.2]; exact List.mem_append_left _ (List.mem_append_left _ (mem_ownL.2 hk)))).2.2 e
theorem Rv.keep6 (R : Rv w wx b o m out' F2 G2 sb s v5 v6 v7 Gj Gn) (hc : Chg (· = sb) wx w') : RowAt w' 4 1 v6 s.have_.length (s.have_.map Value.bool) :=
  (seat_rows R.own).2.1.chg hc fun k hk e => (R.src k (by rw [(seat_rows R.own).2.2.2]; exact List.mem_append_left _ (List.mem_append_right _ (mem_ownL.2 hk)))).2.2 e
/-- The copy stored at its place. -/
theorem Rv.back (R : Rv w wx b o m out' F2 G2 sb s v5 v6 v7 Gj Gn) (X : Split w b o h F vs vo F1 F2) {g off n cap j : Nat} (hf : findS m.page h.seats 0 = some j) (hj : j < h.seats.length) (hvs : vs = .slice (some ⟨g, off, none⟩) n cap) (hS : SeatSrc w h m vs F1 Gj) :
    HostPost w b o (putH h m s out') F (wx.setCells g (off + j * 8) [.string s.page, .int .i64 s.state, .int .i64 s.epoch, .int .i64 s.peer, .string s.letter, v5, v6, v7]) := by
  obtain ⟨-, hS2⟩ := hS
  rw [hf] at hS2
  obtain ⟨g', off', n', cap', hj', e, -, HS⟩ := hS2
  rw [hvs] at e
  cases e
  obtain ⟨hgF, Gj', HS', hGF, hput⟩ := X.set hvs hj
  unfold putH
  rw [hf]
  refine hput wx out' G2 _ s Gn R.mids R.own R.nd (fun k hk => ⟨?_, (R.src k hk).2.1⟩)
  have : Gj' = Gj := seat_fp HS' HS
  rw [this]
  exact (R.src k hk).1
end
/-- Where the block of Receive ends. -/
def PutRel (w wx : World) (b o : Nat) (h : Host) (m : Msg) (s : Seat) (vs : Value) (F1 F2 : List Nat) (sb : Nat) : Prop :=
  ∃ y out' G2 v5 v6 v7 Gj Gn, recvR h s m = putH h m y out' ∧ SeatSrc w h m vs F1 Gj ∧ Rv w wx b o m out' F2 G2 sb y v5 v6 v7 Gj Gn
theorem refSeat_ok {h : Host} (H : HostOk h) (m : Msg) : SeatOk (refSeat h m) ∧ (refSeat h m).letter.size ≤ 1000000000 := by
  unfold refSeat
  cases hf : findS m.page h.seats 0 with
  | none => exact ⟨⟨rfl, Nat.zero_le _, fun p hp => by cases hp⟩, Nat.zero_le _⟩
  | some j =>
    have hj : j < h.seats.length := by have := findS_lt m.page h.seats 0 j hf; omega
    simp only [getS hj]
    obtain ⟨a, b, c, d⟩ := H.each _ (List.getElem_mem hj)
    exact ⟨a, by have := d.lt; omega⟩
theorem refSeat_few {h : Host} (H : HostOk h) (m : Msg) : Few (refSeat h m).refuses.length := by
  unfold refSeat
  cases hf : findS m.page h.seats 0 with
  | none => exact ⟨show (0 : Nat) < 1000000000 by omega⟩
  | some j =>
    have hj : j < h.seats.length := by have := findS_lt m.page h.seats 0 j hf; omega
    simp only [getS hj]
    exact ⟨(H.each _ (List.getElem_mem hj)).2.1⟩
theorem seen_row {w : World} {v : Value} {l : List Int} (h : RowAt w 3 1 v l.length (l.map (Value.int .i64))) : Seen w v (l.map (Value.int .i64)) :=
  seen_flat (f := fun z : Int => Value.int .i64 z) (hf := fun _ => rfl) (e := 3) (F := ownL v) (row_flat.2 ⟨v, rfl, by rw [flat_one]; exact h, rfl⟩)
theorem refSeat_epoch {h : Host} (H : HostOk h) (m : Msg) : -9223372036854775808 ≤ (refSeat h m).epoch ∧ (refSeat h m).epoch < 9223372036854775807 := by
  unfold refSeat
  cases hf : findS m.page h.seats 0 with
  | none => exact ⟨show (-9223372036854775808 : Int) ≤ 0 by omega, show (0 : Int) < 9223372036854775807 by omega⟩
  | some j =>
    have hj : j < h.seats.length := by have := findS_lt m.page h.seats 0 j hf; omega
    simp only [getS hj]
    exact (H.each _ (List.getElem_mem hj)).2.2.1
theorem there8 {w : World} {g T : Nat} {c : Array Value} {o n : Nat} (h : w.heap[g]? = some (.cells c T (0, 0))) (hs : o + n ≤ c.size) : w.there g o n := fun j hj =>
  ⟨by rw [cell_of_block h (Array.getElem?_eq_getElem (show o + j < c.size by omega))]; rfl, frozen_of_block h⟩
/-- A struct of eight cells stored as a whole at the head of its block. -/
theorem set8 {w : World} {b T : Nat} {c : Array Value} (h : w.heap[b]? = some (.cells c T (0, 0))) (hc : c.size = 8) (v0 v1 v2 v3 v4 v5 v6 v7 : Value) :
    (w.setCells b 0 [v0, v1, v2, v3, v4, v5, v6, v7]).heap[b]? = some (.cells #[v0, v1, v2, v3, v4, v5, v6, v7] T (0, 0)) ∧ Chg (· = b) w (w.setCells b 0 [v0, v1, v2, v3, v4, v5, v6, v7]) := by
  obtain ⟨h1, h2⟩ := top8 h hc v0 v1 v2 v3 v4 v5 v6 v7
  exact ⟨h1, h2⟩
end Go.Proofs.Ytkoopagjjmdodaa
