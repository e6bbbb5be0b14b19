/-
  The two sides of layer 53 side by side: the reference's sizes, its bytes, both in memory.
-/
import Derived.Test.YtaacafdlklnegaaTiln
namespace Go.Proofs.Ytaacafdlklnegaa
open Go.RowKit
set_option linter.unusedVariables false
set_option linter.unusedSimpArgs false

/-- The reference's numbers and strings are of a size that is tried. -/
structure RSmall (r : RWorld) (n : Nat) : Prop where
  order : r.order.length ≤ n
  len : r.l.length ≤ n
  ep : ∀ p, r.ep p ≤ 1000
  each : ∀ x ∈ r.l, 0 ≤ x.number ∧ x.number ≤ 1000 ∧ x.request.size ≤ 1000 ∧ x.all.length ≤ n ∧ ∀ y ∈ x.all, y.size ≤ 1000
theorem rsmall_new : RSmall newR 0 := ⟨by simp [newR], by simp [newR], fun p => by show (0 : Int) ≤ 1000; omega, by simp [newR]⟩
section
variable {r : RWorld} {n : Nat}
theorem RSmall.mono (h : RSmall r n) {m : Nat} (hm : n ≤ m) : RSmall r m :=
  ⟨by have := h.order; omega, by have := h.len; omega, h.ep, fun x hx => by obtain ⟨a, b, c, d, e⟩ := h.each x hx; exact ⟨a, b, c, by omega, e⟩⟩
theorem RSmall.setE (h : RSmall r n) (j : Nat) {x : REntry} (hx : 0 ≤ x.number ∧ x.number ≤ 1000 ∧ x.request.size ≤ 1000 ∧ x.all.length ≤ n ∧ ∀ y ∈ x.all, y.size ≤ 1000) : RSmall (r.setE j x) n :=
  ⟨h.order, by show (r.l.set j x).length ≤ n; rw [List.length_set]; exact h.len, h.ep, fun y hy => by
    rcases List.mem_or_eq_of_mem_set hy with h1 | h1
    · exact h.each y h1
    · subst h1; exact hx⟩
theorem RSmall.do_ (h : RSmall r n) (o : COp) (ho : COpOk o) (ht : o.text.size ≤ 1000) : RSmall (doR r o).2 (n + 1) := by
  have h1 := ho.epoch
  have h2 := ho.number
  have hm := h.mono (Nat.le_succ n)
  unfold doR
  split
  · show RSmall (claimR r o.pg o.epoch).2 (n + 1)
    unfold claimR
    split
    · exact hm
    · split
      · exact hm
      · refine ⟨?_, hm.len, fun p => ?_, hm.each⟩
        · have := h.order
          show (if r.ep o.pg = 0 then r.order ++ [o.pg] else r.order).length ≤ n + 1
          split
          · rw [List.length_append]; simp; omega
          · omega
        · show upd r.ep o.pg o.epoch p ≤ 1000
          unfold upd
          split
          · omega
          · exact h.ep p
  · show RSmall (askR r o.pg o.number (servedR r o.pg o.epoch) o.text).2 (n + 1)
    unfold askR
    split
    · exact hm
    · split
      · exact hm
      · split
        · split <;> exact hm
        · split
          · exact hm
          · refine ⟨hm.order, by have := h.len; show (r.l ++ [_]).length ≤ n + 1; rw [List.length_append]; simp; omega, hm.ep, fun x hx => ?_⟩
            rcases List.mem_append.1 hx with hx | hx
            · exact hm.each x hx
            · simp only [List.mem_singleton] at hx; subst hx
              exact ⟨by show 0 ≤ o.number; omega, by show o.number ≤ 1000; omega, ht, by simp, by simp⟩
  · show RSmall (feedR r o.pg o.number o.text).2 (n + 1)
    unfold feedR
    cases hf : findR o.pg o.number r.l 0 with
    | none => exact hm
    | some j =>
      have hj : j < r.l.length := by have := findR_lt _ _ _ _ _ hf; omega
      simp only [getR hj]
      obtain ⟨a, b, c, d, e⟩ := h.each _ (List.getElem_mem hj)
      split
      · exact hm
      · split
        · exact hm
        · refine hm.setE j ⟨a, b, c, ?_, fun y hy => ?_⟩
          · show (r.l[j].all ++ [o.text]).length ≤ n + 1
            rw [List.length_append]; simp; omega
          · rcases List.mem_append.1 hy with hy | hy
            · exact e y hy
            · simp only [List.mem_singleton] at hy; subst hy; exact ht
  · show RSmall (endR r o.pg o.number).2 (n + 1)
    unfold endR
    cases hf : findR o.pg o.number r.l 0 with
    | none => exact hm
    | some j =>
      have hj : j < r.l.length := by have := findR_lt _ _ _ _ _ hf; omega
      simp only [getR hj]
      have := hm.each _ (List.getElem_mem hj)
      split
      · exact hm
      · exact hm.setE j this
  · exact hm
  · show RSmall (ackR r o.pg o.epoch o.number o.at_).2 (n + 1)
    unfold ackR
    cases ha : (atR r o.pg o.epoch o.number).1 with
    | none => exact hm
    | some j =>
      obtain ⟨hj, -⟩ := atR_some ha
      simp only [getR hj]
      have := hm.each _ (List.getElem_mem hj)
      split
      · exact hm
      · exact hm.setE j this
  · show RSmall (closeR r o.pg o.epoch o.number).2 (n + 1)
    unfold closeR
    cases ha : (atR r o.pg o.epoch o.number).1 with
    | none => exact hm
    | some j =>
      obtain ⟨hj, -⟩ := atR_some ha
      simp only [getR hj]
      have := hm.each _ (List.getElem_mem hj)
      exact hm.setE j this
  · exact hm
theorem RSmall.rok {s : State} (h : RSmall r n) (hs : Sim s r) (hn : n ≤ 1000) : ROkW r :=
  ⟨⟨by have := h.order; omega⟩, ⟨by have := h.len; omega⟩, fun x hx => ⟨⟨by have := (h.each x hx).2.2.2.1; omega⟩, (hs.each x hx).lo⟩⟩
end
theorem flat_congr {α β : Type} {f g : α → List β} : ∀ {l : List α}, (∀ x ∈ l, f x = g x) → l.flatMap f = l.flatMap g
  | [], _ => rfl
  | x :: l, h => by rw [List.flatMap_cons, List.flatMap_cons, h x (List.mem_cons_self ..), flat_congr fun y hy => h y (List.mem_cons_of_mem _ hy)]
theorem encI_nat {z : Int} (h : 0 ≤ z) : encI z = Kn.enc (2 * z.toNat) := by
  obtain ⟨k, rfl⟩ := Int.eq_ofNat_of_zero_le h
  unfold encI Kn.zig
  congr 1
theorem Sim.bytes {s : State} {r : RWorld} {n : Nat} (h : Sim s r) (hr : RSmall r n) : bytesR r = encS s := by
  unfold bytesR encS ordRB
  rw [h.owners, h.entries]
  simp only [List.length_map, List.flatMap_map]
  have h1 : r.order.flatMap (ownRB r) = r.order.flatMap (fun p => encO ⟨pageN p, r.ep p⟩) := by
    refine flat_congr fun p hp => ?_
    have h0 : 0 ≤ r.ep p := by
      rcases h.ep p (h.lt p hp) with x | x <;> omega
    unfold ownRB encO
    rw [encI_nat h0]
  have h2 : r.l.flatMap entRB = r.l.flatMap (fun x => encE (toE x)) := by
    refine flat_congr fun x hx => ?_
    have h3 := (hr.each x hx).1
    have h4 := (h.each x hx).lo
    unfold entRB headRB footRB encE toE leftR
    dsimp only
    rw [encI_nat h3, encI_nat h4]
    simp only [List.append_assoc]
  rw [h1, h2]
theorem Reach.encLen' {s : State} {n : Nat} (h : Reach s n) (hn : n ≤ 100) : (encS s).length ≤ 100000000 := by
  have hw := h.wee
  have hs := h.small
  have hE : ∀ x ∈ s.entries, (encE x).length ≤ 200000 := fun x hx => by
    obtain ⟨h1, h2, h3, h4⟩ := hw.es x hx
    obtain ⟨h5, h6⟩ := hs.each x hx
    have a1 := bytesOf_le x.page 200 h1 (by omega)
    have a2 := encI_le h2
    have a3 := bytesOf_le x.request 1000 h3 (by omega)
    have a4 : (x.pieces.flatMap bytesOf).length ≤ x.pieces.length * 1010 := flat_le bytesOf 1010 x.pieces (fun p hp => bytesOf_le p 1000 (h4 p hp) (by omega))
    have a5 := Kn.enc_len10 (n := x.pieces.length) (by omega)
    have a6 := encI_le (z := x.acked) ⟨by omega, by omega⟩
    have hb : ∀ t, (bit t).length = 1 := fun t => rfl
    unfold encE
    simp only [List.length_append, hb]
    have : x.pieces.length * 1010 ≤ 100 * 1010 := Nat.mul_le_mul_right _ (by omega)
    omega
  have a1 := flat_le encO 220 s.owners (fun x hx => by
    have := bytesOf_le x.page 200 (hw.os x hx).1 (by omega)
    have := encI_le (hw.os x hx).2
    unfold encO; rw [List.length_append]; omega)
  have a2 := flat_le encE 200000 s.entries hE
  have h1 := hs.owners
  have h2 := hs.entries
  have b1 : s.owners.length * 220 ≤ 100 * 220 := Nat.mul_le_mul_right _ (by omega)
  have b2 : s.entries.length * 200000 ≤ 100 * 200000 := Nat.mul_le_mul_right _ (by omega)
  have c1 := Kn.enc_len10 (n := s.owners.length) (by omega)
  have c2 := Kn.enc_len10 (n := s.entries.length) (by omega)
  unfold encS
  simp only [List.length_append]
  omega
theorem Sim.bytesOk {s : State} {r : RWorld} {n : Nat} (h : Sim s r) (hr : RSmall r n) (hs : Reach s n) (hn : n ≤ 100) : BytesOk r :=
  ⟨by have := hr.order; omega, by have := hr.len; omega, fun p hp => ⟨h.lt p hp, by rcases h.ep p (h.lt p hp) with x | x <;> omega, hr.ep p⟩,
    fun x hx => by
      obtain ⟨a, b, c, d, e⟩ := hr.each x hx
      have hk := h.each x hx
      exact ⟨hk.page, ⟨a, b⟩, hk.lo, hk.hi, c, by omega, e⟩,
    by rw [h.bytes hr]; exact hs.encLen' hn⟩

/-- The program's state and the reference's, which share no block, and rows beside them: M may lie in what the reference owns. -/
structure Pair (w W : World) (b b2 : Nat) (s : State) (r : RWorld) (L M : List (Value × List Value)) : Prop where
  ne : b ≠ b2
  ex : ∃ F F2, Own stateR w W b 0 s F ∧ Own rworldR w W b2 0 r F2 ∧ b ∉ F2 ∧ b2 ∉ F ∧ (∀ k ∈ F, k ∉ F2) ∧
    (∀ p ∈ L, (∃ e n, RowAt W e 1 p.1 n p.2) ∧ ∀ k, p.1.ownBlock = some k → k ≠ b ∧ k ≠ b2 ∧ k ∉ F ∧ k ∉ F2) ∧
    (∀ p ∈ M, (∃ e n, RowAt W e 1 p.1 n p.2) ∧ ∀ k, p.1.ownBlock = some k → k ≠ b ∧ k ∉ F)
section
variable {w W W' : World} {b b2 : Nat} {s : State} {r : RWorld} {L M : List (Value × List Value)}
theorem Pair.chg (h : Pair w W b b2 s r L M) : Chg (fun _ => False) w W := by
  obtain ⟨F, F2, h1, -⟩ := h.ex
  exact h1.chg
theorem Pair.still (h : Pair w W b b2 s r L M) (hc : Chg (fun _ => False) W W') : Pair w W' b b2 s r L M := by
  obtain ⟨F, F2, h1, h2, h3, h4, h5, h6, h7⟩ := h.ex
  exact ⟨h.ne, F, F2, h1.still hc, h2.still hc, h3, h4, h5, fun p hp => by
    obtain ⟨⟨e, n, hr⟩, hk⟩ := h6 p hp
    exact ⟨⟨e, n, hr.chg hc (fun _ _ x => x)⟩, hk⟩, fun p hp => by
    obtain ⟨⟨e, n, hr⟩, hk⟩ := h7 p hp
    exact ⟨⟨e, n, hr.chg hc (fun _ _ x => x)⟩, hk⟩⟩
theorem Pair.bare (h : Pair w W b b2 s r L M) : Pair w W b b2 s r [] [] := by
  obtain ⟨F, F2, h1, h2, h3, h4, h5, h6, h7⟩ := h.ex
  exact ⟨h.ne, F, F2, h1, h2, h3, h4, h5, fun p hp => (by cases hp), fun p hp => (by cases hp)⟩
theorem Pair.seenL (h : Pair w W b b2 s r L M) {v : Value} {xs : List Value} (hm : (v, xs) ∈ L) : Seen W v xs := by
  obtain ⟨F, F2, h1, h2, h3, h4, h5, h6, h7⟩ := h.ex
  obtain ⟨⟨e, n, hr⟩, -⟩ := h6 _ hm
  exact .ofRow hr
theorem Pair.seenM (h : Pair w W b b2 s r L M) {v : Value} {xs : List Value} (hm : (v, xs) ∈ M) : Seen W v xs := by
  obtain ⟨F, F2, h1, h2, h3, h4, h5, h6, h7⟩ := h.ex
  obtain ⟨⟨e, n, hr⟩, -⟩ := h7 _ hm
  exact .ofRow hr
/-- A call of the program. -/
theorem Pair.do_ (h : Pair w W b b2 s r L M) (x : COp) (n : Nat) (hn : n ≤ 1000) (hx : COpOk x) (hs : Small s n) :
    Calls Try.prog 22 #[.pointer (some ⟨b, 0, none⟩), .agg x.cells.toArray] W fun e w' =>
      ∃ vl vn, e = .returned (.agg #[.int .i64 (doM s x).1.e, vl, .bool (doM s x).1.done, vn]) ∧
        Pair w w' b b2 (doM s x).2 r ((vl, (doM s x).1.l.map Value.string) :: (vn, (doM s x).1.n.map (Value.int .i64)) :: L) M := by
  obtain ⟨F, F2, h1, h2, h3, h4, h5, h6, h7⟩ := h.ex
  refine (do_any W b 0 s F x n hn hx hs h1.here).mono ?_
  rintro e w' ⟨vl, vn, F', rfl, hh, hst, rl, rn, hown⟩
  have hb := h1.here.lt.1
  have hb2 := h2.here.lt.1
  refine ⟨vl, vn, rfl, h.ne, F', F2, h1.step hh hst, ?_, h3, ?_, ?_, ?_, ?_⟩
  · exact ⟨h2.here.apart hst h.ne.symm h4 h3 (fun k hk hk2 => h5 k hk2 hk), (h1.step hh hst).chg, h2.lo, h2.los⟩
  · intro hk
    rcases hst.new _ hk with hk | hk
    · exact h4 hk
    · omega
  · intro k hk hk2
    rcases hst.new _ hk with hk | hk
    · exact h5 k hk hk2
    · have := h2.here.lt.2 k hk2; omega
  · intro p hp
    simp only [List.mem_cons] at hp
    rcases hp with rfl | rfl | hp
    · exact ⟨⟨_, _, rl⟩, fun k hk => by
        obtain ⟨a1, a2⟩ := hown k (.inl hk)
        exact ⟨by omega, by omega, a2, fun hk2 => by have := h2.here.lt.2 k hk2; omega⟩⟩
    · exact ⟨⟨_, _, rn⟩, fun k hk => by
        obtain ⟨a1, a2⟩ := hown k (.inr hk)
        exact ⟨by omega, by omega, a2, fun hk2 => by have := h2.here.lt.2 k hk2; omega⟩⟩
    · obtain ⟨⟨e, m, hr⟩, hk⟩ := h6 p hp
      refine ⟨⟨e, m, hr.chg hst.chg (fun k hb3 x => ?_)⟩, fun k hb3 => ?_⟩
      · have := hk k hb3
        rcases x with x | x
        · exact this.1 x
        · exact this.2.2.1 x
      · have := hk k hb3
        refine ⟨this.1, this.2.1, fun hk4 => ?_, this.2.2.2⟩
        rcases hst.new _ hk4 with hk5 | hk5
        · exact this.2.2.1 hk5
        · have := hr.blockLt k hb3; omega
  · intro p hp
    obtain ⟨⟨e, m, hr⟩, hk⟩ := h7 p hp
    refine ⟨⟨e, m, hr.chg hst.chg (fun k hb3 x => ?_)⟩, fun k hb3 => ?_⟩
    · have := hk k hb3
      rcases x with x | x
      · exact this.1 x
      · exact this.2 x
    · have := hk k hb3
      refine ⟨this.1, fun hk4 => ?_⟩
      rcases hst.new _ hk4 with hk5 | hk5
      · exact this.2 hk5
      · have := hr.blockLt k hb3; omega
/-- A call of the reference. -/
theorem Pair.doR (h : Pair w W b b2 s r L []) (x : COp) (hx : COpOk x) (hr : ROkW r) :
    Calls Try.prog 24 #[.pointer (some ⟨b2, 0, none⟩), .agg x.cells.toArray] W fun e w' =>
      ∃ vl vn, e = .returned (.agg #[.int .i64 (Go.Proofs.Ytaacafdlklnegaa.doR r x).1.e, vl, .bool (Go.Proofs.Ytaacafdlklnegaa.doR r x).1.done, vn]) ∧
        Pair w w' b b2 s (Go.Proofs.Ytaacafdlklnegaa.doR r x).2 L [(vl, (Go.Proofs.Ytaacafdlklnegaa.doR r x).1.l.map Value.string), (vn, (Go.Proofs.Ytaacafdlklnegaa.doR r x).1.n.map (Value.int .i64))] := by
  obtain ⟨F, F2, h1, h2, h3, h4, h5, h6, h7⟩ := h.ex
  refine (Do_any W b2 0 r F2 x hx hr h2.here).mono ?_
  rintro e w' ⟨vl, vn, F', rfl, hh, hst, rl, rn, hol, hon⟩
  have hb := h1.here.lt.1
  have hb2 := h2.here.lt.1
  refine ⟨vl, vn, rfl, h.ne, F, F', ?_, h2.step hh hst, ?_, h4, ?_, ?_, ?_⟩
  · exact ⟨h1.here.apart hst h.ne h3 h4 h5, (h2.step hh hst).chg, h1.lo, h1.los⟩
  · intro hk
    rcases hst.new _ hk with hk | hk
    · exact h3 hk
    · omega
  · intro k hk hk2
    rcases hst.new _ hk2 with hk3 | hk3
    · exact h5 k hk hk3
    · have := h1.here.lt.2 k hk; omega
  · intro p hp
    obtain ⟨⟨e, m, hr⟩, hk⟩ := h6 p hp
    refine ⟨⟨e, m, hr.chg hst.chg (fun k hb3 x => ?_)⟩, fun k hb3 => ?_⟩
    · have := hk k hb3
      rcases x with x | x
      · exact this.2.1 x
      · exact this.2.2.2 x
    · have := hk k hb3
      refine ⟨this.1, this.2.1, this.2.2.1, fun hk4 => ?_⟩
      rcases hst.new _ hk4 with hk5 | hk5
      · exact this.2.2.2 hk5
      · have := hr.blockLt k hb3; omega
  · intro p hp
    simp only [List.mem_cons, List.not_mem_nil, or_false] at hp
    rcases hp with rfl | rfl
    · refine ⟨⟨_, _, rl⟩, fun k hk => ?_⟩
      rcases hol k hk with hk2 | hk2
      · refine ⟨?_, fun hkF => ?_⟩
        · rintro rfl
          rcases hst.new _ hk2 with hk3 | hk3
          · exact h3 hk3
          · omega
        · rcases hst.new _ hk2 with hk3 | hk3
          · exact h5 k hkF hk3
          · have := h1.here.lt.2 k hkF; omega
      · exact ⟨by omega, fun hkF => by have := h1.here.lt.2 k hkF; omega⟩
    · refine ⟨⟨_, _, rn⟩, fun k hk => ?_⟩
      have := hon k hk
      exact ⟨by omega, fun hkF => by have := h1.here.lt.2 k hkF; omega⟩
end
end Go.Proofs.Ytaacafdlklnegaa
