/-
  A Writer and a Reader of our own: all that was there before them is as it was.
-/
import Derived.Test.YtaacafdlklnegaaFitb
namespace Go.Proofs.Ytaacafdlklnegaa
open Go.RowKit
set_option linter.unusedVariables false

/-- A Writer that was made behind w0. -/
structure OwnW (w0 w : World) (b : Nat) (v : Value) (bs : List UInt8) : Prop where
  wr : WrAt w b 94 v bs
  lo : w0.heap.size ≤ b
  own : ∀ k, v.ownBlock = some k → w0.heap.size ≤ k
  chg : Chg (fun _ => False) w0 w
theorem OwnW.new (w : World) : OwnW w (w.alloc (.cells #[.slice none 0 0] 94)) w.heap.size (.slice none 0 0) [] :=
  ⟨WrAt.new w _, Nat.le_refl _, by simp [Value.ownBlock], Chg.alloc _ _ _⟩
theorem OwnW.step {w0 w w' : World} {b : Nat} {v v' : Value} {bs bs' : List UInt8} (h : OwnW w0 w b v bs) (h1 : WrAt w' b 94 v' bs') (h2 : WrFr w w' b v v') : OwnW w0 w' b v' bs' :=
  ⟨h1, h.lo, fun k hk => by
    rcases h2.row k hk with x | x
    · exact h.own k x
    · have := h.chg.size; omega,
   h.chg.trans h2.chg (fun _ _ x => x) (by
    rintro i hi (x | x)
    · have := h.lo; omega
    · have := h.own i x; omega)⟩
theorem OwnW.keep {w0 w w' : World} {b : Nat} {v : Value} {bs : List UInt8} (h : OwnW w0 w b v bs) (hc : Chg (fun _ => False) w w') : OwnW w0 w' b v bs :=
  ⟨h.wr.chg hc (fun x => x) (fun _ _ x => x), h.lo, h.own, h.chg.trans' hc⟩
theorem OwnW.uint {w0 w : World} {b : Nat} {v : Value} {bs : List UInt8} (h : OwnW w0 w b v bs) (n : Nat) (hn : n < 18446744073709551616) (hl : bs.length + (Kn.enc n).length ≤ 140737488355328) :
    Calls Try.prog 57 #[.pointer (some ⟨b, 0, none⟩), .int .u64 n] w fun e w' => e = .returned (.tuple #[]) ∧ ∃ v', OwnW w0 w' b v' (bs ++ Kn.enc n) :=
  (wUint_any w b v bs n hn h.wr hl).mono fun _ _ ⟨he, v', h1, h2⟩ => ⟨he, v', h.step h1 h2⟩
theorem OwnW.int {w0 w : World} {b : Nat} {v : Value} {bs : List UInt8} (h : OwnW w0 w b v bs) (n : Int) (h1 : -9223372036854775808 ≤ n) (h2 : n < 9223372036854775808) (hl : bs.length + (Kn.enc (Kn.zig n)).length ≤ 140737488355328) :
    Calls Try.prog 44 #[.pointer (some ⟨b, 0, none⟩), .int .i64 n] w fun e w' => e = .returned (.tuple #[]) ∧ ∃ v', OwnW w0 w' b v' (bs ++ Kn.enc (Kn.zig n)) :=
  (wInt_any w b v bs n h1 h2 h.wr hl).mono fun _ _ ⟨he, v', h1, h2⟩ => ⟨he, v', h.step h1 h2⟩
theorem OwnW.bool {w0 w : World} {b : Nat} {v : Value} {bs : List UInt8} (h : OwnW w0 w b v bs) (t : Bool) (hl : bs.length + 1 ≤ 140737488355328) : Calls Try.prog 58 #[.pointer (some ⟨b, 0, none⟩), .bool t] w fun e w' => e = .returned (.tuple #[]) ∧ ∃ v', OwnW w0 w' b v' (bs ++ [if t then 1 else 0]) := (wBool_any w b v bs t h.wr hl).mono fun _ _ ⟨he, v', h1, h2⟩ => ⟨he, v', h.step h1 h2⟩
theorem OwnW.count {w0 w : World} {b : Nat} {v : Value} {bs : List UInt8} (h : OwnW w0 w b v bs) (n : Int) (h1 : -9223372036854775808 ≤ n) (h2 : n < 9223372036854775808) (hl : bs.length + (Kn.enc n.toNat).length ≤ 140737488355328) : Calls Try.prog 42 #[.pointer (some ⟨b, 0, none⟩), .int .i64 n] w fun e w' => e = .returned (.tuple #[]) ∧ ∃ v', OwnW w0 w' b v' (bs ++ Kn.enc n.toNat) := (wCount_any w b v bs n h1 h2 h.wr hl).mono fun _ _ ⟨he, v', h1, h2⟩ => ⟨he, v', h.step h1 h2⟩
theorem OwnW.string {w0 w : World} {b : Nat} {v : Value} {bs : List UInt8} (h : OwnW w0 w b v bs) (s : ByteArray) (hl : bs.length + (Kn.enc s.size).length + s.size ≤ 140737488355328) :
    Calls Try.prog 43 #[.pointer (some ⟨b, 0, none⟩), .string s] w fun e w' => e = .returned (.tuple #[]) ∧ ∃ v', OwnW w0 w' b v' (bs ++ Kn.enc s.size ++ s.data.toList) :=
  (wString_any w b v bs s h.wr hl).mono fun _ _ ⟨he, v', h1, h2⟩ => ⟨he, v', h.step h1 h2⟩
theorem OwnW.conv {w0 w : World} {b : Nat} {v : Value} {bs : List UInt8} (h : OwnW w0 w b v bs) (n : Nat) : (convert 35 9 v).run Try.prog (w.drewN n) = .ok (.string ⟨bs.toArray⟩) (w.drewN n) := run_convert_row (h.wr.row.drewN n)
theorem OwnW.conv0 {w0 w : World} {b : Nat} {v : Value} {bs : List UInt8} (h : OwnW w0 w b v bs) : (convert 35 9 v).run Try.prog w = .ok (.string ⟨bs.toArray⟩) w := run_convert_row h.wr.row

/-- A Reader that was made behind w0. -/
structure OwnR (w0 w : World) (b : Nat) (s : ByteArray) (p e : Int) : Prop where
  rd : RdAt w b 107 s p e
  lo : w0.heap.size ≤ b
  chg : Chg (fun _ => False) w0 w
theorem OwnR.step {w0 w w' : World} {b : Nat} {s : ByteArray} {p e p' e' : Int} (h : OwnR w0 w b s p e) (h1 : RdAt w' b 107 s p' e') (h2 : Chg (· = b) w w') : OwnR w0 w' b s p' e' :=
  ⟨h1, h.lo, h.chg.trans h2 (fun _ _ x => x) (by
    rintro i hi x
    have := h.lo; omega)⟩
theorem OwnR.keep {w0 w w' : World} {b : Nat} {s : ByteArray} {p e : Int} (h : OwnR w0 w b s p e) (hc : Chg (fun _ => False) w w') : OwnR w0 w' b s p e :=
  ⟨Chg.keep hc h.rd (fun x => x), h.lo, h.chg.trans' hc⟩
theorem OwnR.new (w : World) (s : ByteArray) (p e : Int) : OwnR w (w.alloc (.cells #[.string s, .int .i64 p, .int .i64 e] 107)) w.heap.size s p e :=
  ⟨alloc_block w _, Nat.le_refl _, Chg.alloc _ _ _⟩

theorem restOf_at (s : ByteArray) (p : Nat) (h : p ≤ s.size) : (restOf s p).data.toList = s.data.toList.drop p := by
  rw [restOf, if_neg (by omega), Int.toNat_natCast, Lib.extract_to_end]
/-- What is read where an encoding begins. -/
theorem rU_enc (s : ByteArray) (p n : Nat) (r : List UInt8) (hp : p ≤ s.size) (hn : n < 18446744073709551616) (h : s.data.toList.drop p = Kn.enc n ++ r) : rU s p 0 = (n, ((p + (Kn.enc n).length : Nat) : Int), 0) := by
  have h1 := restOf_at s p hp
  rw [rU, if_pos rfl, h1, h, Kn.numOf_enc hn]
  have := Kn.enc_pos n
  rw [if_neg (by show ¬ (Kn.enc n).length = 0; omega)]
  simp
theorem rS_enc (s t : ByteArray) (p : Nat) (r : List UInt8) (hp : p ≤ s.size) (hn : t.size < 18446744073709551616) (h : s.data.toList.drop p = Kn.enc t.size ++ (t.data.toList ++ r)) :
    rS s p 0 = (t, ((p + (Kn.enc t.size).length + t.size : Nat) : Int), 0) := by
  have h1 := restOf_at s p hp
  have hl : (restOf s p).size = (Kn.enc t.size).length + (t.size + r.length) := by
    have : (restOf s p).data.toList.length = (restOf s p).size := by simp
    rw [← this, h1, h]; simp
  have := Kn.enc_pos t.size
  rw [rS, if_pos rfl, h1, h, Kn.numOf_enc hn]
  rw [if_neg (by show ¬ ((Kn.enc t.size).length = 0 ∨ (restOf s p).size < (Kn.enc t.size).length + t.size); omega)]
  simp only [Prod.mk.injEq]
  refine ⟨bytes_ext ?_, by omega, trivial⟩
  rw [Lib.extract_data, h1, h, List.drop_left]
  rw [show (Kn.enc t.size).length + t.size - (Kn.enc t.size).length = t.size from by omega]
  have ht : t.data.toList.length = t.size := by simp
  rw [← ht, List.take_left]
theorem rB_enc (s : ByteArray) (p : Nat) (t : Bool) (r : List UInt8) (hp : p ≤ s.size) (h : s.data.toList.drop p = (if t then 1 else 0) :: r) : rB s p 0 = (t, ((p + 1 : Nat) : Int), 0) := by
  have h1 := restOf_at s p hp
  rw [rB, if_pos rfl, h1, h]
  cases t <;> simp
theorem rC_enc (s : ByteArray) (p n : Nat) (most : Int) (r : List UInt8) (hp : p ≤ s.size) (hn : n < 18446744073709551616) (hm : (n : Int) ≤ most) (h : s.data.toList.drop p = Kn.enc n ++ r) : rC s p 0 most = (n, ((p + (Kn.enc n).length : Nat) : Int), 0) := by
  have h1 := restOf_at s p hp
  rw [rC, if_pos rfl, h1, h, Kn.numOf_enc hn]
  have := Kn.enc_pos n
  rw [if_neg (by show ¬ (Kn.enc n).length = 0; omega), if_neg (by show ¬ most.toNat < n; omega)]
  simp

theorem Chg.cellNe {b : Nat} {w w' : World} (h : Chg (· = b) w w') {a : Addr} {v : Value} (hc : w.cell? a = some v) (hne : a.block ≠ b) : w'.cell? a = some v := by
  have hb : a.block < w.heap.size := World.block_lt_of_cell? w _ hc
  rw [World.cell?_of_block (h.block a.block hb hne)]; exact hc
/-- A Reader of our own at which l is left to be read, without an error so far. -/
def OwnRest (w0 w : World) (b : Nat) (s : ByteArray) (l : List UInt8) : Prop := ∃ p : Nat, OwnR w0 w b s p 0 ∧ p ≤ s.size ∧ s.data.toList.drop p = l
section
variable {w0 w : World} {b : Nat} {s : ByteArray}
theorem OwnRest.new (w : World) (s : ByteArray) (T : TypeId) (hT : T = 107) : OwnRest w (w.alloc (.cells #[.string s, .int .i64 0, .int .i64 0] T)) w.heap.size s s.data.toList := by
  subst hT
  exact ⟨0, OwnR.new w s 0 0, Nat.zero_le _, rfl⟩
theorem OwnRest.drew {l : List UInt8} (h : OwnRest w0 w b s l) : OwnRest w0 w.drew b s l := by
  obtain ⟨p, h1, h2⟩ := h
  exact ⟨p, ⟨h1.rd, h1.lo, h1.chg.drewR⟩, h2⟩
theorem OwnRest.chg {l : List UInt8} (h : OwnRest w0 w b s l) : Chg (fun _ => False) w0 w := by
  obtain ⟨p, h1, _⟩ := h
  exact h1.chg
theorem OwnRest.next {w' : World} {l r : List UInt8} (p k : Nat) (h : OwnR w0 w' b s ((p + k : Nat) : Int) 0) (hp : p ≤ s.size) (hd : s.data.toList.drop p = l ++ r) (hk : l.length = k) : OwnRest w0 w' b s r := by
  have hl : s.data.toList.length = s.size := by simp
  have h2 := congrArg List.length hd
  rw [List.length_drop, List.length_append] at h2
  refine ⟨p + k, h, by omega, ?_⟩
  rw [← List.drop_drop, hd, ← hk, List.drop_left]
theorem OwnRest.uint {n : Nat} {r : List UInt8} (h : OwnRest w0 w b s (Kn.enc n ++ r)) (hn : n < 18446744073709551616) (hs : s.size ≤ 140737488355328) :
    Calls Try.prog 62 #[.pointer (some ⟨b, 0, none⟩)] w fun e w' => e = .returned (.int .u64 n) ∧ OwnRest w0 w' b s r ∧ Chg (· = b) w w' := by
  obtain ⟨p, h1, h2, h3⟩ := h
  refine (rUint_any w b s p 0 h1.rd hs).mono fun e w' ⟨he, h4, h5⟩ => ?_
  rw [rU_enc s p n r h2 hn h3] at he h4
  exact ⟨he, OwnRest.next p _ (h1.step h4 h5) h2 h3 rfl, h5⟩
theorem OwnRest.int {n : Int} {r : List UInt8} (h : OwnRest w0 w b s (Kn.enc (Kn.zig n) ++ r)) (hn1 : -9223372036854775808 ≤ n) (hn2 : n < 9223372036854775808) (hs : s.size ≤ 140737488355328) :
    Calls Try.prog 52 #[.pointer (some ⟨b, 0, none⟩)] w fun e w' => e = .returned (.int .i64 n) ∧ OwnRest w0 w' b s r ∧ Chg (· = b) w w' := by
  obtain ⟨p, h1, h2, h3⟩ := h
  refine (rInt_any w b s p 0 h1.rd hs).mono fun e w' ⟨he, h4, h5⟩ => ?_
  rw [rU_enc s p (Kn.zig n) r h2 (Kn.zig_lt hn1 hn2) h3] at he h4
  exact ⟨by rw [he]; simp only [Kn.unzig_zig hn1 hn2], OwnRest.next p _ (h1.step h4 h5) h2 h3 rfl, h5⟩
theorem OwnRest.string {t : ByteArray} {r : List UInt8} (h : OwnRest w0 w b s (Kn.enc t.size ++ (t.data.toList ++ r))) (ht : t.size < 18446744073709551616) (hs : s.size ≤ 140737488355328) :
    Calls Try.prog 51 #[.pointer (some ⟨b, 0, none⟩)] w fun e w' => e = .returned (.string t) ∧ OwnRest w0 w' b s r ∧ Chg (· = b) w w' := by
  obtain ⟨p, h1, h2, h3⟩ := h
  refine (rString_any w b s p 0 h1.rd hs).mono fun e w' ⟨he, h4, h5⟩ => ?_
  rw [rS_enc s t p r h2 ht h3] at he h4
  refine ⟨he, OwnRest.next (l := Kn.enc t.size ++ t.data.toList) p ((Kn.enc t.size).length + t.size) ?_ h2 (by rw [h3, List.append_assoc]) (by simp), h5⟩
  rw [← Nat.add_assoc]
  exact h1.step h4 h5
theorem OwnRest.done (h : OwnRest w0 w b s []) (hs : s.size ≤ 140737488355328) :
    Calls Try.prog 54 #[.pointer (some ⟨b, 0, none⟩)] w fun e w' => e = .returned (.int .i64 0) ∧ Chg (fun _ => False) w w' := by
  obtain ⟨p, h1, h2, h3⟩ := h
  refine (rDone_any w b s p 0 h1.rd hs).mono fun e w' ⟨he, h5⟩ => ?_
  have hl : s.data.toList.length = s.size := by simp
  have h4 := congrArg List.length h3
  rw [List.length_drop, List.length_nil] at h4
  rw [if_neg (by simp), if_neg (by simp; omega)] at he
  exact ⟨he, h5⟩
theorem OwnRest.bool {t : Bool} {r : List UInt8} (h : OwnRest w0 w b s ((if t then 1 else 0) :: r)) (hs : s.size ≤ 140737488355328) : Calls Try.prog 63 #[.pointer (some ⟨b, 0, none⟩)] w fun e w' => e = .returned (.bool t) ∧ OwnRest w0 w' b s r ∧ Chg (· = b) w w' := by
  obtain ⟨p, h1, h2, h3⟩ := h
  refine (rBool_any w b s p 0 h1.rd hs).mono fun e w' ⟨he, h4, h5⟩ => ?_
  rw [rB_enc s p t r h2 h3] at he h4
  exact ⟨he, OwnRest.next (l := [if t then 1 else 0]) p 1 (h1.step h4 h5) h2 h3 rfl, h5⟩
theorem OwnRest.count {n : Nat} {m : Int} {r : List UInt8} (h : OwnRest w0 w b s (Kn.enc n ++ r)) (hn : n < 18446744073709551616) (hm : (n : Int) ≤ m) (hm1 : -9223372036854775808 ≤ m) (hm2 : m < 9223372036854775808) (hs : s.size ≤ 140737488355328) : Calls Try.prog 50 #[.pointer (some ⟨b, 0, none⟩), .int .i64 m] w fun e w' => e = .returned (.int .i64 n) ∧ OwnRest w0 w' b s r ∧ Chg (· = b) w w' := by
  obtain ⟨p, h1, h2, h3⟩ := h
  refine (rCount_any w b s p 0 m hm1 hm2 h1.rd hs).mono fun e w' ⟨he, h4, h5⟩ => ?_
  rw [rC_enc s p n m r h2 hn hm h3] at he h4
  exact ⟨he, OwnRest.next p _ (h1.step h4 h5) h2 h3 rfl, h5⟩
end
/-- A Writer of our own, and a block beside it that stays as it is. -/
structure WB (w0 w : World) (b : Nat) (v : Value) (bs : List UInt8) (n : Nat) (cs : Array Value) (U : Nat) : Prop where
  own : OwnW w0 w b v bs
  box : w.heap[n]? = some (.cells cs U (0, 0))
  ne : n ≠ b
  nv : ∀ k, v.ownBlock = some k → k ≠ n
section
variable {w0 w w' : World} {b n U : Nat} {v v' : Value} {bs bs' : List UInt8} {cs : Array Value}
theorem WB.mk' (h : OwnW w0 w b v bs) (cs : Array Value) (U : Nat) : WB w0 (w.alloc (.cells cs U)) b v bs w.heap.size cs U := by
  have h1 := lt_of_block h.wr.box
  exact ⟨h.keep (Chg.alloc _ _ _), alloc_block _ _, by omega, fun k hk => by have := h.wr.row.lt k hk; omega⟩
theorem WB.step (h : WB w0 w b v bs n cs U) (h1 : WrAt w' b 94 v' bs') (h2 : WrFr w w' b v v') : WB w0 w' b v' bs' n cs U :=
  ⟨h.own.step h1 h2, h2.chg.keep h.box (fun x => x.elim h.ne (fun y => h.nv n y rfl)), h.ne, fun k hk => by
      rcases h2.row k hk with x | x
      · exact h.nv k x
      · have := lt_of_block h.box; omega⟩
theorem WB.keep (h : WB w0 w b v bs n cs U) (hc : Chg (fun _ => False) w w') : WB w0 w' b v bs n cs U :=
  ⟨h.own.keep hc, hc.keep h.box (fun x => x), h.ne, h.nv⟩
theorem WB.drew (h : WB w0 w b v bs n cs U) : WB w0 w.drew b v bs n cs U := h.keep ((Chg.refl _ w).drewR)
theorem WB.cell (h : WB w0 w b v bs n cs U) (i : Nat) {u : Value} (hu : cs[i]? = some u) : w.cell? ⟨n, i, none⟩ = some u := cell_of_block h.box hu
def bytesOf (s : ByteArray) : List UInt8 := Kn.enc s.size ++ s.data.toList
def encI (n : Int) : List UInt8 := Kn.enc (Kn.zig n)
def bit (t : Bool) : List UInt8 := [if t then 1 else 0]
structure I64 (n : Int) : Prop where
  lo : -9223372036854775808 ≤ n
  hi : n < 9223372036854775808
theorem WB.str (h : WB w0 w b v bs n cs U) (s : ByteArray) (hl : bs.length + (bytesOf s).length ≤ 140737488355328) :
    Calls Try.prog 43 #[.pointer (some ⟨b, 0, none⟩), .string s] w fun e w' => e = .returned (.tuple #[]) ∧ ∃ v', WB w0 w' b v' (bs ++ bytesOf s) n cs U := by
  have h2 : s.data.toList.length = s.size := by simp
  refine (wString_any w b v bs s h.own.wr (by unfold bytesOf at hl; rw [List.length_append] at hl; omega)).mono fun e w' ⟨he, v', h1, h3⟩ => ⟨he, v', ?_⟩
  rw [bytesOf, ← List.append_assoc]; exact h.step h1 h3
theorem WB.num (h : WB w0 w b v bs n cs U) (z : Int) (hn : I64 z) (hl : bs.length + (encI z).length ≤ 140737488355328) :
    Calls Try.prog 44 #[.pointer (some ⟨b, 0, none⟩), .int .i64 z] w fun e w' => e = .returned (.tuple #[]) ∧ ∃ v', WB w0 w' b v' (bs ++ encI z) n cs U :=
  (wInt_any w b v bs z hn.lo hn.hi h.own.wr hl).mono fun _ _ ⟨he, v', h1, h3⟩ => ⟨he, v', h.step h1 h3⟩
end
section
variable {w0 w w' : World} {b n U : Nat} {v v' : Value} {bs bs' : List UInt8} {cs : Array Value}
theorem WB.cnt (h : WB w0 w b v bs n cs U) (m : Nat) (hn : m ≤ 9223372036854775807) (hl : bs.length + (Kn.enc m).length ≤ 140737488355328) : Calls Try.prog 42 #[.pointer (some ⟨b, 0, none⟩), .int .i64 (m : Int)] w fun e w' => e = .returned (.tuple #[]) ∧ ∃ v', WB w0 w' b v' (bs ++ Kn.enc m) n cs U := by
  have h4 := wCount_any w b v bs (m : Int) (by omega) (by omega) h.own.wr (by simpa using hl)
  simp only [Int.toNat_natCast] at h4
  exact h4.mono fun _ _ ⟨he, v', h1, h3⟩ => ⟨he, v', h.step h1 h3⟩
theorem OwnW.cnt (h : OwnW w0 w b v bs) (m : Nat) (hn : m ≤ 9223372036854775807) (hl : bs.length + (Kn.enc m).length ≤ 140737488355328) : Calls Try.prog 42 #[.pointer (some ⟨b, 0, none⟩), .int .i64 (m : Int)] w fun e w' => e = .returned (.tuple #[]) ∧ ∃ v', OwnW w0 w' b v' (bs ++ Kn.enc m) := by
  have h4 := wCount_any w b v bs (m : Int) (by omega) (by omega) h.wr (by simpa using hl)
  simp only [Int.toNat_natCast] at h4
  exact h4.mono fun _ _ ⟨he, v', h1, h3⟩ => ⟨he, v', h.step h1 h3⟩
theorem WB.truth (h : WB w0 w b v bs n cs U) (t : Bool) (hl : bs.length + 1 ≤ 140737488355328) : Calls Try.prog 58 #[.pointer (some ⟨b, 0, none⟩), .bool t] w fun e w' => e = .returned (.tuple #[]) ∧ ∃ v', WB w0 w' b v' (bs ++ bit t) n cs U := (wBool_any w b v bs t h.own.wr hl).mono fun _ _ ⟨he, v', h1, h3⟩ => ⟨he, v', h.step h1 h3⟩
end
end Go.Proofs.Ytaacafdlklnegaa
