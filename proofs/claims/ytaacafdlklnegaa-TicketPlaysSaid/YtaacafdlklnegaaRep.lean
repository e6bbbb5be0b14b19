/-
  A Writer and a Reader in memory: what the blocks hold, and what a call leaves alone.
-/
import Derived.Test.YtaacafdlklnegaaProg
import Derived.Test.YtaacafdlklnegaaPlain
import Derived.Test.YtaacafdlklnegaaMem
import Derived.WalkKit
import Derived.WalkSpells
import Derived.WalkLawsBesides
import Derived.Lib.Hide
import Derived.Deep.QuietTactic
import Derived.BigQuiet
namespace Go.Proofs.Ytaacafdlklnegaa
set_option linter.unusedVariables false
open Go.RowKit

/-- A byte as a cell. -/
def byteV (b : UInt8) : Value := .int .u8 b.toNat
theorem byteV_one (l : List UInt8) : ∀ u ∈ l.map byteV, u.oneCell' = true := by
  intro u hu
  obtain ⟨b, _, rfl⟩ := List.mem_map.1 hu
  rfl

theorem Try.info5 : (Try.prog.info? 5).map (fun i => (i.zero, i.size, i.bytes)) = some (some (.int .u8 0), 1, 1) := by kernel_rfl

/-- The Writer at block b, its bytes in a row of its own. -/
structure WrAt (w : World) (b T : Nat) (v : Value) (bs : List UInt8) : Prop where
  box : w.heap[b]? = some (.cells #[v] T (0, 0))
  row : RowAt w 5 1 v bs.length (bs.map byteV)
  ne : v.ownBlock ≠ some b
/-- What a method of a Writer leaves alone. -/
structure WrFr (w w' : World) (b : Nat) (v v' : Value) : Prop where
  chg : Chg (fun k => k = b ∨ v.ownBlock = some k) w w'
  row : ∀ k, v'.ownBlock = some k → v.ownBlock = some k ∨ w.heap.size ≤ k
theorem WrFr.refl (w : World) (b : Nat) (v : Value) : WrFr w w b v v := ⟨.refl _ _, fun _ h => .inl h⟩
theorem WrFr.trans {w w1 w2 : World} {b : Nat} {v v1 v2 : Value} (h : WrFr w w1 b v v1) (k : WrFr w1 w2 b v1 v2) : WrFr w w2 b v v2 := by
  refine ⟨h.chg.trans k.chg (fun _ _ x => x) ?_, ?_⟩
  · rintro i hi (x | x)
    · exact .inl x
    · rcases h.row i x with y | y
      · exact .inr y
      · omega
  · intro i x
    rcases k.row i x with y | y
    · exact h.row i y
    · exact .inr (Nat.le_trans h.chg.size y)
/-- A change that does not touch the Writer. -/
theorem WrAt.chg {S : Nat → Prop} {w w' : World} {b T : Nat} {v : Value} {bs : List UInt8} (h : WrAt w b T v bs) (hc : Chg S w w') (hb : ¬ S b) (hv : ∀ k, v.ownBlock = some k → ¬ S k) : WrAt w' b T v bs :=
  ⟨hc.keep h.box hb, h.row.chg hc hv, h.ne⟩
theorem WrAt.alloc {w : World} {b T : Nat} {v : Value} {bs : List UInt8} (h : WrAt w b T v bs) (o : Obj) : WrAt (w.alloc o) b T v bs :=
  h.chg (Chg.alloc (fun _ => False) w o) (fun x => x) (fun _ _ x => x)
/-- One append and the store of its result. -/
theorem WrAt.push {w w1 : World} {b T : Nat} {v v1 : Value} {bs new : List UInt8} (h : WrAt w b T v bs) (hrow : RowAt w1 5 1 v1 (bs.length + new.length) (bs.map byteV ++ new.map byteV))
    (hg : Chg (fun k => v.ownBlock = some k) w w1) (hr : ∀ k, v1.ownBlock = some k → v.ownBlock = some k ∨ w.heap.size ≤ k) :
    WrAt (w1.setCell ⟨b, 0, none⟩ v1) b T v1 (bs ++ new) ∧ WrFr w (w1.setCell ⟨b, 0, none⟩ v1) b v v1 := by
  have hb := lt_of_block h.box
  have hne1 : v1.ownBlock ≠ some b := fun e => by
    rcases hr b e with y | y
    · exact h.ne y
    · omega
  have hbox : w1.heap[b]? = some (.cells #[v] T (0, 0)) := hg.keep h.box h.ne
  refine ⟨⟨?_, ?_, hne1⟩, ⟨?_, hr⟩⟩
  · rw [setCell_block v1 hbox]; simp
  · have := hrow.chg (Chg.setCell w1 ⟨b, 0, none⟩ v1) (fun k hk e => hne1 (by rw [hk, e]))
    simpa using this
  · exact (hg.mono (fun i _ x => .inr x)).setCellR _ _ (fun _ => .inl rfl)

theorem WrAt.new (w : World) (T : Nat) : WrAt (w.alloc (.cells #[.slice none 0 0] T)) w.heap.size T (.slice none 0 0) [] :=
  ⟨alloc_block w _, RowAt.nil _ _ _, by simp [Value.ownBlock]⟩
/-- A Writer of our own: nothing old has changed. -/
theorem WrFr.fresh {w w1 w' : World} {b : Nat} {v v' : Value} (h0 : Chg (fun _ => False) w w1) (h : WrFr w1 w' b v v') (hb : w.heap.size ≤ b) (hv : ∀ k, v.ownBlock = some k → w.heap.size ≤ k) : Chg (fun _ => False) w w' :=
  h0.trans h.chg (fun _ _ x => x) (by
    rintro i hi (x | x)
    · omega
    · have := hv i x; omega)

/-- The Reader at block b. -/
def RdAt (w : World) (b T : Nat) (s : ByteArray) (at_ err : Int) : Prop :=
  w.heap[b]? = some (.cells #[.string s, .int .i64 at_, .int .i64 err] T (0, 0))

end Go.Proofs.Ytaacafdlklnegaa
