/-
  decoder.entry: a request out of bytes.
-/
import Derived.Test.YtaacafdlklnegaaTiku
import Derived.Deep.CutBlock
namespace Go.Proofs.Ytaacafdlklnegaa
open Go.RowKit
set_option linter.unusedVariables false

/-- A Reader's state: place and error. -/
abbrev RS := Int × Int
def rI (s : ByteArray) (r : RS) : Int × RS := (Kn.unzig (rU s r.1 r.2).1, (rU s r.1 r.2).2)
def rT (s : ByteArray) (r : RS) : ByteArray × RS := ((rS s r.1 r.2).1, (rS s r.1 r.2).2)
def rO (s : ByteArray) (r : RS) : Bool × RS := ((rB s r.1 r.2).1, (rB s r.1 r.2).2)
def rN (s : ByteArray) (most : Int) (r : RS) : Nat × RS := ((rC s r.1 r.2 most).1, (rC s r.1 r.2 most).2)
/-- n values, while there is no error. -/
def rMany {α : Type} (f : RS → α × RS) : Nat → RS → List α × RS
  | 0, r => ([], r)
  | n + 1, r => if r.2 = 0 then ((f r).1 :: (rMany f n (f r).2).1, (rMany f n (f r).2).2) else ([], r)
theorem rMany_zero {α : Type} (f : RS → α × RS) (r : RS) : rMany f 0 r = ([], r) := rfl
theorem rMany_err {α : Type} (f : RS → α × RS) (n : Nat) (r : RS) (h : r.2 ≠ 0) : rMany f n r = ([], r) := by
  cases n with
  | zero => rfl
  | succ n => rw [rMany, if_neg h]
theorem rMany_succ {α : Type} (f : RS → α × RS) (n : Nat) (r : RS) (h : r.2 = 0) : rMany f (n + 1) r = ((f r).1 :: (rMany f n (f r).2).1, (rMany f n (f r).2).2) := by rw [rMany, if_pos h]
theorem rMany_len {α : Type} (f : RS → α × RS) : ∀ (n : Nat) (r : RS), (rMany f n r).1.length ≤ n
  | 0, r => Nat.le_refl _
  | n + 1, r => by
    rw [rMany]
    split
    · have := rMany_len f n (f r).2
      simp only [List.length_cons]; omega
    · exact Nat.zero_le _
def RdS (w : World) (b : Nat) (s : ByteArray) (r : RS) : Prop := RdAt w b 107 s r.1 r.2
section
variable {w w' : World} {b : Nat} {s : ByteArray} {r : RS}
theorem readInt (hr : RdS w b s r) (hs : s.size ≤ 140737488355328) :
    Calls Try.prog 52 #[.pointer (some ⟨b, 0, none⟩)] w fun e w' => e = .returned (.int .i64 (rI s r).1) ∧ RdS w' b s (rI s r).2 ∧ Chg (· = b) w w' := rInt_any w b s r.1 r.2 hr hs
theorem readStr (hr : RdS w b s r) (hs : s.size ≤ 140737488355328) :
    Calls Try.prog 51 #[.pointer (some ⟨b, 0, none⟩)] w fun e w' => e = .returned (.string (rT s r).1) ∧ RdS w' b s (rT s r).2 ∧ Chg (· = b) w w' := rString_any w b s r.1 r.2 hr hs
theorem readBool (hr : RdS w b s r) (hs : s.size ≤ 140737488355328) :
    Calls Try.prog 63 #[.pointer (some ⟨b, 0, none⟩)] w fun e w' => e = .returned (.bool (rO s r).1) ∧ RdS w' b s (rO s r).2 ∧ Chg (· = b) w w' := rBool_any w b s r.1 r.2 hr hs
theorem readCnt (hr : RdS w b s r) (hs : s.size ≤ 140737488355328) (m : Int) (h1 : -9223372036854775808 ≤ m) (h2 : m < 9223372036854775808) :
    Calls Try.prog 50 #[.pointer (some ⟨b, 0, none⟩), .int .i64 m] w fun e w' => e = .returned (.int .i64 (rN s m r).1) ∧ RdS w' b s (rN s m r).2 ∧ Chg (· = b) w w' := rCount_any w b s r.1 r.2 m h1 h2 hr hs
theorem readDone (hr : RdS w b s r) (hs : s.size ≤ 140737488355328) :
    Calls Try.prog 54 #[.pointer (some ⟨b, 0, none⟩)] w fun e w' => e = .returned (.int .i64 (if r.2 ≠ 0 then r.2 else if r.1 ≠ s.size then 3 else 0)) ∧ Chg (fun _ => False) w w' := rDone_any w b s r.1 r.2 hr hs
theorem RdS.keep {S : Nat → Prop} (h : RdS w b s r) (hc : Chg S w w') (hn : ¬ S b) : RdS w' b s r := RdAt.keep h hc hn
theorem RdS.err (h : RdS w b s r) : w.cell? ⟨b, 2, none⟩ = some (.int .i64 r.2) := cell_of_block (i := 2) h rfl
end
theorem rN_le (s : ByteArray) (m : Int) (r : RS) (hm : 0 ≤ m) : ((rN s m r).1 : Int) ≤ m := by
  unfold rN rC
  split
  · dsimp only
    split
    · simpa using hm
    · split
      · simpa using hm
      · rename_i h; omega
  · simpa using hm
/-- A request out of bytes. -/
def decE (s : ByteArray) (most : Int) (r : RS) : Entry × RS :=
  let p := rT s r
  let n := rI s p.2
  let q := rT s n.2
  let c := rN s most q.2
  let l := rMany (rT s) c.1 c.2
  let a := rI s l.2
  let e := rO s a.2
  let d := rO s e.2
  (⟨p.1, n.1, q.1, l.1, a.1, e.1, d.1⟩, d.2)
end Go.Proofs.Ytaacafdlklnegaa
